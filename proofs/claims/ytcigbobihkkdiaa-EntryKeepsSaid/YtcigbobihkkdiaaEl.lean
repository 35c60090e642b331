/- Entry: Decode. -/
import Derived.Test.YtcigbobihkkdiaaEk
import Derived.Laws.EntriesVeiled
namespace Go.Proofs.Ytcigbobihkkdiaa
open Go.RowKit
set_option linter.unusedVariables false
set_option linter.unusedSimpArgs false
attribute [local go_sem] fld1 fld2 fld3

/-- The state of Decode: the result's place, wrong, take, the entry. -/
structure DS (w wr : World) (rb wb tb eb : Nat) (b : Bool) (x : TEntry) (v : Value) : Prop where
  hr : Blk wr rb (encV8 zEnt (.slice none 0 0)) 29
  hw : Blk wr wb #[.bool b] 4
  ht : wr.cell? ⟨tb, 0, none⟩ = some (tkF wb)
  he : Blk wr eb (encV8 x v) 29
  o1 : w.heap.size ≤ rb
  o2 : rb < wb
  o3 : wb < tb
  o4 : tb < eb
  bel : Below w.heap.size w wr

theorem DS.take {w u u' : World} {rb wb tb eb : Nat} {b b' : Bool} {x : TEntry} {v : Value} (h : DS w u rb wb tb eb b x v) (hc : Chg (fun k => k = wb) u u') (hb : Blk u' wb #[.bool b'] 4) : DS w u' rb wb tb eb b' x v := by
  obtain ⟨h1, h2, h3, h4, o1, o2, o3, o4, hbel⟩ := h
  exact ⟨h1.chg hc (by omega), hb, (hc.cell (p := ⟨tb, 0, none⟩) (World.lt_of_cell h3) (by simp; omega)).trans h3, h4.chg hc (by omega), o1, o2, o3, o4, hbel.trans (hc.below hbel.size (fun k hk e => by omega))⟩

theorem DS.setE {w u : World} {rb wb tb eb : Nat} {b : Bool} {x0 x : TEntry} {v0 v y : Value} {i : Nat} (h : DS w u rb wb tb eb b x0 v0) (he : (encV8 x0 v0).setIfInBounds i y = encV8 x v) : DS w (u.setCell ⟨eb, i, none⟩ y) rb wb tb eb b x v := by
  obtain ⟨h1, h2, h3, h4, o1, o2, o3, o4, hbel⟩ := h
  refine ⟨h1.set_other (by simp; omega) _, h2.set_other (by simp; omega) _, ?_, by rw [← he]; exact h4.set i y, o1, o2, o3, o4, hbel.setCell (by simp; omega) _⟩
  exact (((Chg.refl (fun k => k = eb) u).setCell ⟨eb, i, none⟩ y (fun _ => rfl)).cell (p := ⟨tb, 0, none⟩) (World.lt_of_cell h3) (by simp; omega)).trans h3
theorem DS.drew {w u : World} {rb wb tb eb : Nat} {b : Bool} {x : TEntry} {v : Value} (h : DS w u rb wb tb eb b x v) : DS w u.drew rb wb tb eb b x v := by
  obtain ⟨h1, h2, h3, h4, o1, o2, o3, o4, hbel⟩ := h
  exact ⟨h1.drew, h2.drew, h3, h4.drew, o1, o2, o3, o4, hbel.drew⟩
theorem DS.below {w u u' : World} {rb wb tb eb : Nat} {b : Bool} {x : TEntry} {v : Value} (h : DS w u rb wb tb eb b x v) (hb : Below u.heap.size u u') : DS w u' rb wb tb eb b x v := by
  obtain ⟨h1, h2, h3, h4, o1, o2, o3, o4, hbel⟩ := h
  exact ⟨h1.below hb h1.lt, h2.below hb h2.lt, cellkeep hb h3, h4.below hb h4.lt, o1, o2, o3, o4, hbel.trans (hb.mono hbel.size)⟩
theorem DS.chg {w u u' : World} {rb wb tb eb : Nat} {b : Bool} {x : TEntry} {v : Value} {S : Nat → Prop} (h : DS w u rb wb tb eb b x v) (hc : Chg S u u') (hS : ∀ k, k ≤ eb → ¬ S k) : DS w u' rb wb tb eb b x v := by
  obtain ⟨h1, h2, h3, h4, o1, o2, o3, o4, hbel⟩ := h
  exact ⟨h1.chg hc (hS _ (by omega)), h2.chg hc (hS _ (by omega)), (hc.cell (p := ⟨tb, 0, none⟩) (World.lt_of_cell h3) (hS _ (by simp; omega))).trans h3, h4.chg hc (hS _ (by omega)), o1, o2, o3, o4, hbel.trans (hc.below hbel.size (fun k hk => hS _ (by omega)))⟩
theorem op_flag (o : Itm) : opB o = !(!decide (o.kind = 2) || !decide (o.lst.length = 7) || !tkB o.lst 0 0 || !tkB o.lst 2 0 || !numB o.lst 3 || !tkB o.lst 4 0 || !tkB o.lst 5 0 || !numB o.lst 6 || !tkB o.lst 1 2 || !(tkI o.lst 1 2).lst.all (fun i => decide (i.kind = 0))) := by
  unfold opB
  simp only [Bool.not_or, Bool.not_not]
theorem len_cnt : ∀ (l : List Itm), l.length ≤ cntL l
  | [] => by rw [cntL]; exact Nat.le_refl _
  | .mk k n s r :: t => by have := len_cnt t; rw [cntL, cntI, List.length_cons]; omega
theorem cnt_mem {x : Itm} : ∀ {l : List Itm}, x ∈ l → cntL x.lst ≤ cntL l
  | [], h => by simp at h
  | .mk k n s r :: t, h => by
    rw [cntL, cntI]
    rcases List.mem_cons.1 h with rfl | h
    · show cntL r ≤ _
      omega
    · have := cnt_mem h; omega
theorem cnt_tk (l : List Itm) (i : Nat) (k : Int) : cntL (tkI l i k).lst ≤ cntL l := by
  unfold tkI
  split
  · rename_i x hx
    split
    · exact cnt_mem (List.mem_of_getElem? hx)
    · show cntL [] ≤ _
      rw [cntL]; exact Nat.zero_le _
  · show cntL [] ≤ _
    rw [cntL]; exact Nat.zero_le _
theorem OpsR.base_le {b b' : Nat} {w : World} {v : Value} {ps : List POp} (h : OpsR b w v ps) (hb : b' ≤ b) : OpsR b' w v ps :=
  ⟨h.1.base_le hb, fun p hp => (h.2 p hp).imp fun k hk => ⟨⟨by omega, hk.2⟩, rfl⟩⟩
theorem OpsR.below {b B : Nat} {w w' : World} {v : Value} {ps : List POp} (h : OpsR b w v ps) (hb : Below B w w') (hB : w.heap.size ≤ B) : OpsR b w' v ps :=
  ⟨h.1.below hb hB, fun p hp => (h.2 p hp).imp fun k hk => ⟨⟨hk.1, Nat.lt_of_lt_of_le hk.2.1 hb.size, hk.2.2⟩, hb.block k (Nat.lt_of_lt_of_le hk.2.1 hB)⟩⟩
/-- The items of the message lie between the result's place and wrong. -/
def MD (rb wb : Nat) (k : Nat) : Prop := rb < k ∧ k < wb
theorem its_take {d rb wb : Nat} {u u' : World} {ao : Option Addr} {cap : Nat} {l : List Itm} (h : RItsP d (MD rb wb) u ao cap l) (hlt : wb ≤ u.heap.size) (hc : Chg (fun k => k = wb) u u') : RItsP d (MD rb wb) u' ao cap l :=
  h.imp fun b hb => ⟨hb, hc.block b (Nat.lt_of_lt_of_le hb.2 hlt) (Nat.ne_of_lt hb.2)⟩

set_option maxRecDepth 100000 in
set_option maxHeartbeats 4000000 in
theorem edecode_any (s : ByteArray) (w : World) (hs : s.size ≤ maxLen) : Calls Try.prog 13 #[.string s] w (EDecR w (edV (txtB s))) := by
  obtain ⟨R, hR⟩ : ∃ r, r = edV (txtB s) := ⟨_, rfl⟩
  rw [← hR]
  unfold edV at hR
  go_enter Try.func13, Try.ntmps13
  go_upto_region 1 with fail
  refine Code.wp_world ?_
  intro w1 hw1
  obtain ⟨rb, hrb⟩ : ∃ c, c = w.heap.size := ⟨_, rfl⟩
  have hb1 : Below w.heap.size w w1 := by rw [hw1]; exact below_alloc1 w _
  have hs1 : w1.heap.size = rb + 1 := by rw [hw1, hrb]; simp
  have hC1 : Blk w1 rb (encV8 zEnt (.slice none 0 0)) 29 := by rw [hw1, hrb]; exact Blk.new _ _ _
  rw [← hrb]
  clear hw1
  replace hrb := Lib.hid hrb
  by_cases hs0 : s.size = 0
  · obtain rfl := empty_bytes hs0
    rw [if_pos (by rfl)] at hR
    subst hR
    obtain ⟨q0, q1, q2, q3, q4, q5, q6, q7⟩ := blk8 hC1
    have qf := fun i => hC1.frozen i
    go_wp2_with fail
    refine bodyPost_ret (results_cell_tmp rfl _ _ rb _ rfl (run_loadVar_row _ rb 29 _ _ (0, 0) _ ((((((((hC1.set 0 _).set 1 _).set 2 _).set 3 _).set 4 _).set 5 _).set 6 _).set 7 _) Try.underlying29 rfl (by kernel_rfl))) rfl ?_
    have hbq := Nat.le_of_eq hrb.out.symm
    exact ⟨(by repeat (first | with_reducible assumption | with_reducible exact Below.refl _ _ | with_reducible refine below_drewN ?_ _ | with_reducible refine Below.drew ?_ | (refine Below.setCell ?_ (by first | omega | (simp; omega) | simp) _) | (refine Below.alloc ?_ (by first | omega | (simp; omega) | simp) _) | (refine Below.trans ?_ (Below.mono (by with_reducible assumption) (by first | omega | (simp; omega) | simp))))), .slice none 0 0, [], rfl, OpsR.nil _ _, rfl⟩
  have hsn := nonempty_bytes (s := s) (by omega)
  have hsl : (s.toList == ([] : List UInt8)) = false := by rw [key_zero]; simpa using hs0
  have htn : ¬ txtB s = [] := fun h => hs0 (by have := congrArg List.length h; rw [txtB_len] at this; simpa using this)
  rw [if_neg htn] at hR
  obtain ⟨cap2, w2, hcv, hb12, hby⟩ := str_bytes s w1 hs
  have hD := decode_any (txtB s) (txtB_lt s) _ cap2 w2 hby
  rw [txtB_len] at hD
  obtain ⟨⟨n, l⟩, hnl⟩ : ∃ r, r = decV (txtB s) := ⟨_, rfl⟩
  rw [← hnl] at hD hR
  dsimp only at hR
  clear hby
  replace hR := Lib.hid hR
  replace hs1 := Lib.hid hs1
  go_wp2_with (go_at_call 24; refine Shut.out ?kd)
  unfold Shut
  refine hD.mono ?_
  rintro e w3 ⟨hb23, ao3, cap3, rfl, hit3⟩
  dsimp only at hit3 ⊢
  clear hD hcv
  have hb3 : Below w.heap.size w w3 := Below.trans hb1 (Below.mono (Below.trans hb12 (Below.mono hb23 hb12.size)) hb1.size)
  have hb13 : Below w1.heap.size w1 w3 := Below.trans hb12 (Below.mono hb23 hb12.size)
  have hC3 := hC1.below hb13 hC1.lt
  obtain ⟨q0, q1, q2, q3, q4, q5, q6, q7⟩ := blk8 hC3
  have qf := fun i => hC3.frozen i
  by_cases hn0 : n = 0
  case neg =>
    have hnd : ((n : Int) != 0) = true := by simpa using hn0
    have hRv := hR.out
    rw [if_pos hn0] at hRv
    subst hRv
    have hbq := Nat.le_of_eq hrb.out.symm
    go_wp2_with fail
    refine bodyPost_ret (results_cell_tmp rfl _ _ rb _ rfl (run_loadVar_row _ rb 29 _ _ (0, 0) _ ((((((((hC3.set 0 _).set 1 _).set 2 _).set 3 _).set 4 _).set 5 _).set 6 _).set 7 _) Try.underlying29 rfl (by kernel_rfl))) rfl ?_
    exact ⟨(by repeat (first | with_reducible assumption | with_reducible exact Below.refl _ _ | with_reducible refine below_drewN ?_ _ | with_reducible refine Below.drew ?_ | (refine Below.setCell ?_ (by first | omega | (simp; omega) | simp) _) | (refine Below.alloc ?_ (by first | omega | (simp; omega) | simp) _) | (refine Below.trans ?_ (Below.mono (by with_reducible assumption) (by first | omega | (simp; omega) | simp))))), .slice none 0 0, [], rfl, OpsR.nil _ _, rfl⟩
  subst hn0
  rw [show ((0 : Nat) : Int) = 0 from rfl]
  have hnd : ((0 : Int) != 0) = false := rfl
  rw [if_neg (by simp)] at hR
  have hb12' := hb12
  clear q0 q1 q2 q3 q4 q5 q6 q7 qf hC1 hb1 hb12 hs0 htn
  go_upto_region 9 with fail
  refine Code.wp_world ?_
  intro w4 hw4
  obtain ⟨wb, hwb⟩ : ∃ c, c = w3.heap.size := ⟨_, rfl⟩
  obtain ⟨tb, htb⟩ : ∃ c, c = w3.heap.size + 1 := ⟨_, rfl⟩
  have hs12 := hb13.size
  have hs23 := hb23.size
  have hsw : w1.heap.size ≤ w2.heap.size := hb12'.size
  have hrw : rb < w2.heap.size := by have := hs1.out; omega
  have hb34 : Below w3.heap.size w3 w4 := by rw [hw4]; exact below_alloc2 _ _ _
  have hW4 : Blk w4 wb #[.bool false] 4 := by rw [hw4, hwb]; exact (Blk.new _ _ _).alloc _
  have hT4 : w4.cell? ⟨tb, 0, none⟩ = some (tkF wb) := by
    have : Blk w4 tb #[tkF wb] 63 := by rw [hw4, htb, hwb]; exact blk_new1 _ _ _ _
    exact this.cellAt rfl
  have hs4 : w4.heap.size = tb + 1 := by rw [hw4, htb]; simp
  have hits4 : RItsP 8 (MD rb wb) w4 ao3 cap3 l := hit3.imp fun b hb => ⟨⟨Nat.lt_of_lt_of_le hrw hb.1, by rw [hwb]; exact hb.2⟩, hb34.block b hb.2⟩
  have hC4 := hC3.below hb34 hC3.lt
  have hb4 : Below w.heap.size w w4 := hb3.trans (hb34.mono hb3.size)
  rw [← htb, ← hwb]
  have htw : tb = wb + 1 := by rw [htb, hwb]
  have hrlt : rb < wb := by rw [hwb]; exact Nat.lt_of_lt_of_le hrw hs23
  clear hw4 htb hC3 hit3 hb34 hb3 hb13 hb23 hb12' hs12 hs23 hsw hrw hwb
  have hT := take_any 7 (MD rb wb) l ao3 cap3 0 0 false wb w4 hits4 (fun k hk => by have := hk.2; omega) hW4 (by omega)
  obtain ⟨nl, hnl2⟩ : ∃ k, k = l.length := ⟨_, rfl⟩
  rw [← hnl2] at hT ⊢
  obtain ⟨x0, hx0⟩ : ∃ x, x = tkI l 0 0 := ⟨_, rfl⟩
  rw [← hx0] at hT
  have hT4' := hT4
  unfold tkF at hT4'
  replace hT4 := Lib.hid hT4
  have hs4' := hs4
  replace hs4 := Lib.hid hs4
  replace htw := Lib.hid htw
  replace hnl2 := Lib.hid hnl2
  replace hx0 := Lib.hid hx0
  go_wp2_with (go_at_call 25; refine Shut.out ?kt0)
  unfold Shut
  refine hT.mono ?_
  rintro e w5 ⟨p0, hp0, rfl, hz0, _, _, hch5, hW5⟩
  dsimp only
  clear hT hp0 hT4' hs4'
  go_upto_region 10 with fail
  refine Code.wp_world ?_
  intro w6 hw6
  obtain ⟨eb, heb⟩ : ∃ c, c = w5.heap.size := ⟨_, rfl⟩
  have hs5 := hch5.size
  have hDS6 : DS w w6 rb wb tb eb (!tkB l 0 0) ⟨x0.num, zRec, ⟨[]⟩, 0⟩ (.slice none 0 0) := by
    have hb5 : Below w.heap.size w w5 := hb4.trans (hch5.below hb4.size (fun k hk e => by have := hrb.out; omega))
    have h56 : Below w5.heap.size w5 w6 := by rw [hw6]; exact below_alloc1 _ _
    have ht4 := hT4.out
    have hlt4 := World.lt_of_cell ht4
    have e1 := htw.out
    have e2 := hs4.out
    refine ⟨(hC4.chg hch5 (by omega)).below h56 (by have := hC4.lt; omega), ?_, ?_, ?_, by have := hrb.out; omega, hrlt, by omega, by omega, hb5.trans (h56.mono hb5.size)⟩
    · simpa using hW5.below h56 hW5.lt
    · exact (h56.cell (p := ⟨tb, 0, none⟩) (by simp at hlt4; simp; omega)).trans ((hch5.cell (p := ⟨tb, 0, none⟩) hlt4 (by simp; omega)).trans ht4)
    · rw [hw6, heb]; exact Blk.new _ _ _
  have hits6 : RItsP 8 (MD rb wb) w6 ao3 cap3 l := (its_take hits4 (by have := hs4.out; have := htw.out; omega) hch5).imp fun b hb => ⟨hb, by
    have h56 : Below w5.heap.size w5 w6 := by rw [hw6]; exact below_alloc1 _ _
    have e1 := htw.out
    have e2 := hs4.out
    exact h56.block b (by have := hb.2; omega)⟩
  rw [← heb]
  have hkn : x0.num = tkN l 0 := by rw [tkN, hx0.out]
  have hwl : wb ≤ w6.heap.size := Nat.le_of_lt hDS6.hw.lt
  clear hw6 hb4 hC4 hits4 hW4 hch5 hW5 heb hs5 hT4 htw hs4 hx0
  obtain ⟨k, hk⟩ : ∃ k, k = x0.num := ⟨_, rfl⟩
  rw [← hk] at hDS6 hz0 hkn ⊢
  clear hk
  replace hkn := Lib.hid hkn
  replace hnl := Lib.hid hnl
  have ek : w6.cell? ⟨eb, 0, none⟩ = some (.int .i64 k) := hDS6.he.cellAt rfl
  go_upto_block 0 with fail
  refine Code.wp_world ?_
  intro w7 hw7
  subst hw7
  go_cut [10] from 11 to 151 (fun s10 wr => ∃ (b : Bool) (x : TEntry) (v : Value) (ps : List POp), s10 = .int .i64 (edC l : Nat) ∧ DS w wr rb wb tb eb b x v ∧ x = edE l ∧ b = !edB l ∧ OpsR (eb + 1) wr v ps ∧ ps.map (·.x) = x.fGraph.fOps)
  case first =>
    have htb7 := hDS6.ht
    unfold tkF at htb7
    have hD7 : ∀ (u : World), w7.heap.size ≤ u.heap.size → ∀ k, MD rb wb k → k < u.heap.size := fun u hu k hk => by have := hk.2; omega
    have hopn : ∀ (u : World), OpsR (eb + 1) u (.slice none 0 0) [] := fun u => OpsR.nil _ _
    replace hD7 := Lib.hid hD7
    replace hopn := Lib.hid hopn
    by_cases k0 : k = 0
    · subst k0
      have e0 : w7.cell? ⟨wb, 0, none⟩ = some (.bool (!tkB l 0 0)) := hDS6.hw.cellAt rfl
      have f0 := hDS6.hw.frozen 0
      go_wp2_with fail
      go_meet
      have hk := hkn.out
      refine ⟨true, _, _, [], ?_, hDS6.take ((Chg.refl _ _).setCell ⟨wb, 0, none⟩ (.bool true) (fun _ => rfl)) (by simpa using hDS6.hw.set 0 (.bool true)), ?_, ?_, hopn.out _, rfl⟩
      · rw [edC, if_neg (by rw [← hk]; decide)]; rfl
      · rw [edE, if_neg (by rw [← hk]; decide), if_neg (by rw [← hk]; decide), if_pos hk.symm]; rfl
      · rw [edB, if_neg (by rw [← hk]; decide), if_neg (by rw [← hk]; decide), if_pos hk.symm, Bool.and_false]; rfl
    by_cases k1 : k = 1
    · subst k1
      go_upto_region 17 with fail
      refine wp_region_calmO (fun wx => wx.cell? ⟨tb, 0, none⟩ = some (tkF wb)) 19 [0, 1, 4, 5, 8, 9, 12, 13, 16, 17, 2, 3, 6, 7, 10, 11, 14, 15, 18] [2, 6, 10, 14, 18] (by kernel_rfl) (by kernel_rfl) (fun d _ _ _ _ h => by cases d <;> exact h) hDS6.ht (fun hHeld => ?_)
      simp only [List.take_succ_cons, List.take_zero, List.drop_succ_cons, List.drop_zero, pickN, Nat.reduceSub]
      have hDSc := hDS6.drew
      have hitc : RItsP 8 (MD rb wb) w7.drew ao3 cap3 l := hits6.imp fun b hb => ⟨hb, rfl⟩
      have hlc : w7.heap.size ≤ w7.drew.heap.size := Nat.le_refl _
      clear htb7
      unfold tkF
      iterate 10 (refine wpCalmO_q rfl rfl ⟨?_, ?_, ?_⟩; rotate_left; (focus (intro wx hSx; (try dsimp only at hSx); go_simp; (try with_reducible rfl))); (simp only [Act.put, List.setIfInBounds_toArray, List.set_cons_zero, List.set_cons_succ]))
      have hT := take_any 7 (MD rb wb) l ao3 cap3 1 0 _ wb _ hitc (hD7.out _ hlc) hDSc.hw (by omega)
      rw [← hnl2.out] at hT
      obtain ⟨x1, hxx1⟩ : ∃ x, x = tkI l 1 0 := ⟨_, rfl⟩
      rw [← hxx1] at hT
      replace hxx1 := Lib.hid hxx1
      refine wpCalmO_s rfl rfl (fun K' hK => ?_)
      go_simp
      refine hT.mono ?_
      rintro e uc ⟨pc, hpc, rfl, hzx1, htx1, _, hchc, hWc⟩
      dsimp only
      clear hT hpc
      replace hDSc := hDSc.take hchc hWc
      replace hitc := its_take hitc (Nat.le_trans hwl hlc) hchc
      replace hlc := Nat.le_trans hlc hchc.size
      clear hchc hWc
      refine hK.out _ _ hDSc.ht ?_
      clear hK K'
      try simp only [Act.put, List.setIfInBounds_toArray, List.set_cons_zero, List.set_cons_succ]
      (refine wpCalmO_q rfl rfl ⟨?_, ?_, ?_⟩; rotate_left; (focus (intro wx hSx; (try dsimp only at hSx); go_simp; (try with_reducible rfl))); (simp only [Act.put, List.setIfInBounds_toArray, List.set_cons_zero, List.set_cons_succ]))
      have hT := take_any 7 (MD rb wb) l ao3 cap3 2 0 _ wb _ hitc (hD7.out _ hlc) hDSc.hw (by omega)
      rw [← hnl2.out] at hT
      obtain ⟨x2, hxx2⟩ : ∃ x, x = tkI l 2 0 := ⟨_, rfl⟩
      rw [← hxx2] at hT
      replace hxx2 := Lib.hid hxx2
      refine wpCalmO_s rfl rfl (fun K' hK => ?_)
      go_simp
      refine hT.mono ?_
      rintro e uc ⟨pc, hpc, rfl, hzx2, htx2, _, hchc, hWc⟩
      dsimp only
      clear hT hpc
      replace hDSc := hDSc.take hchc hWc
      replace hitc := its_take hitc (Nat.le_trans hwl hlc) hchc
      replace hlc := Nat.le_trans hlc hchc.size
      clear hchc hWc
      refine hK.out _ _ hDSc.ht ?_
      clear hK K'
      try simp only [Act.put, List.setIfInBounds_toArray, List.set_cons_zero, List.set_cons_succ]
      (refine wpCalmO_q rfl rfl ⟨?_, ?_, ?_⟩; rotate_left; (focus (intro wx hSx; (try dsimp only at hSx); go_simp; (try with_reducible rfl))); (simp only [Act.put, List.setIfInBounds_toArray, List.set_cons_zero, List.set_cons_succ]))
      have hT := take_any 7 (MD rb wb) l ao3 cap3 3 0 _ wb _ hitc (hD7.out _ hlc) hDSc.hw (by omega)
      rw [← hnl2.out] at hT
      obtain ⟨x3, hxx3⟩ : ∃ x, x = tkI l 3 0 := ⟨_, rfl⟩
      rw [← hxx3] at hT
      replace hxx3 := Lib.hid hxx3
      refine wpCalmO_s rfl rfl (fun K' hK => ?_)
      go_simp
      refine hT.mono ?_
      rintro e uc ⟨pc, hpc, rfl, hzx3, htx3, _, hchc, hWc⟩
      dsimp only
      clear hT hpc
      replace hDSc := hDSc.take hchc hWc
      replace hitc := its_take hitc (Nat.le_trans hwl hlc) hchc
      replace hlc := Nat.le_trans hlc hchc.size
      clear hchc hWc
      refine hK.out _ _ hDSc.ht ?_
      clear hK K'
      try simp only [Act.put, List.setIfInBounds_toArray, List.set_cons_zero, List.set_cons_succ]
      (refine wpCalmO_q rfl rfl ⟨?_, ?_, ?_⟩; rotate_left; (focus (intro wx hSx; (try dsimp only at hSx); go_simp; (try with_reducible rfl))); (simp only [Act.put, List.setIfInBounds_toArray, List.set_cons_zero, List.set_cons_succ]))
      have hT := take_any 7 (MD rb wb) l ao3 cap3 4 1 _ wb _ hitc (hD7.out _ hlc) hDSc.hw (by omega)
      rw [← hnl2.out] at hT
      obtain ⟨x4, hxx4⟩ : ∃ x, x = tkI l 4 1 := ⟨_, rfl⟩
      rw [← hxx4] at hT
      replace hxx4 := Lib.hid hxx4
      refine wpCalmO_s rfl rfl (fun K' hK => ?_)
      go_simp
      refine hT.mono ?_
      rintro e uc ⟨pc, hpc, rfl, hzx4, htx4, _, hchc, hWc⟩
      dsimp only
      clear hT hpc
      replace hDSc := hDSc.take hchc hWc
      replace hitc := its_take hitc (Nat.le_trans hwl hlc) hchc
      replace hlc := Nat.le_trans hlc hchc.size
      clear hchc hWc
      refine hK.out _ _ hDSc.ht ?_
      clear hK K'
      try simp only [Act.put, List.setIfInBounds_toArray, List.set_cons_zero, List.set_cons_succ]
      (refine wpCalmO_q rfl rfl ⟨?_, ?_, ?_⟩; rotate_left; (focus (intro wx hSx; (try dsimp only at hSx); go_simp; (try with_reducible rfl))); (simp only [Act.put, List.setIfInBounds_toArray, List.set_cons_zero, List.set_cons_succ]))
      have hN := dnum_any 7 (MD rb wb) l ao3 cap3 5 _ wb tb _ hitc (hD7.out _ hlc) hDSc.hw hDSc.ht (by omega)
      rw [← hnl2.out] at hN
      refine wpCalmO_s rfl rfl (fun K' hK => ?_)
      go_simp
      refine hN.mono ?_
      rintro e uc ⟨rfl, hchc, hWc⟩
      dsimp only
      clear hN
      replace hDSc := hDSc.take hchc hWc
      clear hchc hWc
      refine hK.out _ _ hDSc.ht ?_
      clear hK K'
      try simp only [Act.put, List.setIfInBounds_toArray, List.set_cons_zero, List.set_cons_succ]
      refine wpCalmO_nil ?_
      obtain ⟨q0, q1, q2, q3, q4, q5, q6, q7⟩ := blk8 hDSc.he
      have qf := fun i => hDSc.he.frozen i
      clear hDS6 hits6 ek
      go_wp2_with fail
      go_meet
      have hk := hkn.out
      refine ⟨_, _, _, [], ?_, ((((hDSc.setE (i := 1) (v := .slice none 0 0) (x := ⟨1, ⟨x1.num, 0, 0, ⟨#[]⟩, 0⟩, ⟨[]⟩, 0⟩) rfl).setE (i := 2) (v := .slice none 0 0) (x := ⟨1, ⟨x1.num, x2.num, 0, ⟨#[]⟩, 0⟩, ⟨[]⟩, 0⟩) rfl).setE (i := 3) (v := .slice none 0 0) (x := ⟨1, ⟨x1.num, x2.num, x3.num, ⟨#[]⟩, 0⟩, ⟨[]⟩, 0⟩) rfl).setE (i := 4) (v := .slice none 0 0) (x := ⟨1, ⟨x1.num, x2.num, x3.num, x4.txt, 0⟩, ⟨[]⟩, 0⟩) rfl).setE (i := 5) (v := .slice none 0 0) (x := ⟨1, ⟨x1.num, x2.num, x3.num, x4.txt, numV l 5⟩, ⟨[]⟩, 0⟩) rfl, ?_, ?_, hopn.out _, rfl⟩
      · rw [edC, if_pos hk.symm]; rfl
      · rw [edE, if_pos hk.symm, hxx1.out, hxx2.out, hxx3.out, hxx4.out]; rfl
      · rw [edB, if_pos hk.symm]
        cases tkB l 0 0 <;> cases tkB l 1 0 <;> cases tkB l 2 0 <;> cases tkB l 3 0 <;> cases tkB l 4 1 <;> cases numB l 5 <;> rfl
    by_cases k3 : k = 3
    · subst k3
      have hcl : cntL l ≤ 4096 := by
        have hE := enc_dec (txtB_lt s) hnl.out.symm
        have h1 := chkL_ok l 1 0 (by
          unfold encV at hE
          by_cases hc : (chkL l 1 0).2 = 0
          · exact hc
          · rw [if_pos hc] at hE; simp at hE; omega)
        have := h1.2.2 (by omega)
        omega
      have hT := take_any 7 (MD rb wb) l ao3 cap3 1 2 (!tkB l 0 0) wb w7 hits6 (hD7.out _ (Nat.le_refl _)) hDS6.hw (by omega)
      rw [← hnl2.out] at hT
      obtain ⟨x1, hx1⟩ : ∃ x, x = tkI l 1 2 := ⟨_, rfl⟩
      rw [← hx1] at hT
      have hcx1 : cntL x1.lst ≤ 4096 := by rw [hx1]; exact Nat.le_trans (cnt_tk l 1 2) hcl
      replace hx1 := Lib.hid hx1
      go_wp2_with (go_at_call 25; refine Shut.out ?kt3)
      unfold Shut
      refine hT.mono ?_
      rintro e w8 ⟨⟨x1', ao1, cap1⟩, hp1, rfl, _, _, hit8, hch8, hW8⟩
      dsimp only at hp1 hit8 ⊢
      subst hp1
      have hDS8 := hDS6.take hch8 hW8
      have hl8 : wb ≤ w8.heap.size := Nat.le_trans hwl hch8.size
      clear hT hDS6 hits6 ek htb7 hch8 hW8 hz0 hcl
      obtain ⟨m, hm⟩ : ∃ m, m = x1'.lst.length := ⟨_, rfl⟩
      have hm4 : m ≤ 4096 := by rw [hm]; exact Nat.le_trans (len_cnt _) hcx1
      rw [← hm]
      replace hm := Lib.hid hm
      replace hcx1 := Lib.hid hcx1
      go_wp2_with fail
      go_loopw [74] (fun x74 wr => ∃ (i : Nat) (b : Bool) (ps : List POp) (v : Value), i ≤ m ∧ x74 = .int .i64 i ∧ DS w wr rb wb tb eb b ⟨3, zRec, ⟨ps.map (·.x)⟩, 0⟩ v ∧ b = !(tkB l 0 0 && tkB l 1 2 && (x1'.lst.take i).all opB) ∧ OpsR (eb + 1) wr v ps ∧ ps.map (·.x) = (x1'.lst.take i).map opV ∧ Chg (fun k => wb ≤ k) w8 wr) (fun x74 _ => m - (intOf x74).toNat)
      case atStart => exact ⟨0, _, [], _, Nat.zero_le _, rfl, hDS8, by cases tkB l 0 0 <;> cases tkB l 1 2 <;> rfl, OpsR.nil _ _, rfl, Chg.refl _ _⟩
      case round =>
        obtain ⟨i, b, ps, v, hi, rfl, hDS, hb, hops, hpm, hch⟩ := hrel
        have hitr : RItsP 7 (MD rb wb) wr ao1 cap1 x1'.lst := hit8.imp fun k hk => ⟨hk, hch.block k (Nat.lt_of_lt_of_le hk.2 hl8) (by have := hk.2; omega)⟩
        clear hDS8
        by_cases him : i < m
        · have hix : i < x1'.lst.length := by rw [← hm.out]; exact him
          obtain ⟨o, hxo⟩ : ∃ o, x1'.lst[i] = o := ⟨_, rfl⟩
          have hti1 : (x1'.lst.take (i + 1)).all opB = ((x1'.lst.take i).all opB && opB o) := by rw [List.take_add_one, List.getElem?_eq_getElem hix, hxo, List.all_append]; simp
          have hti2 : (x1'.lst.take (i + 1)).map opV = (x1'.lst.take i).map opV ++ [opV o] := by rw [List.take_add_one, List.getElem?_eq_getElem hix, hxo, List.map_append]; rfl
          have hco : cntL o.lst ≤ 4096 := Nat.le_trans (cnt_mem (by rw [← hxo]; exact List.getElem_mem hix)) hcx1.out
          obtain ⟨bb, rfl, hDb⟩ := hitr.addr (by omega)
          obtain ⟨ao2, cap2, g0, g1, g2, g3, z0, z1, z2, hit2⟩ := hitr.at hix hxo
          have hlr : wb < wr.heap.size := hDS.hw.lt
          have hbr : bb < wr.heap.size := by have := hDb.2; omega
          obtain ⟨no, hno⟩ : ∃ k, k = o.lst.length := ⟨_, rfl⟩
          rw [← hno] at g3
          have hpsl : ps.length = i := by have := congrArg List.length hpm; rw [List.length_map, List.length_map, List.length_take] at this; omega
          clear hitr hDb
          replace hno := Lib.hid hno
          replace hxo := Lib.hid hxo
          replace hti1 := Lib.hid hti1
          replace hti2 := Lib.hid hti2
          replace hb := Lib.hid hb
          replace hpm := Lib.hid hpm
          replace hpsl := Lib.hid hpsl
          go_upto_region 22 with fail
          refine Code.wp_world ?_
          intro w9 hw9
          obtain ⟨ob, hob⟩ : ∃ c, c = wr.heap.size := ⟨_, rfl⟩
          have hO9 : Blk w9 ob #[.int .i64 o.kind, .int .i64 o.num, .string o.txt, .slice ao2 no cap2] 50 := by rw [hw9, hob]; exact Blk.new _ _ _
          have hb9 : Below wr.heap.size wr w9 := by rw [hw9]; exact below_alloc1 _ _
          have hDS9 := hDS.below hb9
          have hcr9 : Chg (fun k => k = wb) wr w9 := (Chg.of_below hb9).mono (fun k h1 h2 => absurd h2 (by omega))
          have hif9 : RItsP 6 (MD rb wb) w9 ao2 cap2 o.lst := hit2.imp fun k hk => ⟨hk, hb9.block k (by have := hk.2; omega)⟩
          have hobw : wb < ob ∧ eb < ob := by have := hDS.he.lt; omega
          rw [← hob]
          clear hw9 g0 g1 g2 g3 hDS hb9 hit2
          replace hob := Lib.hid hob
          have e0 : w9.cell? ⟨wb, 0, none⟩ = some (.bool b) := hDS9.hw.cellAt rfl
          have f0 := hDS9.hw.frozen 0
          obtain ⟨q0, q1, q2, q3⟩ := blk4 hO9
          go_cut [] from 78 to 89 (fun wx => Chg (fun k => k = wb) w9 wx ∧ Blk wx wb #[.bool (b || !decide (o.kind = 2) || !decide (no = 7))] 4)
          case first =>
            have hset := fun (u : Bool) => hDS9.hw.set 0 (.bool u)
            have hchs := fun (u : Bool) => (Chg.refl (fun k => k = wb) w9).setCell ⟨wb, 0, none⟩ (.bool u) (fun _ => rfl)
            clear hb hDS9
            cases b with
            | true =>
              go_wp2_with fail
              go_meet
              exact ⟨hchs _, by simpa using hset true⟩
            | false =>
              by_cases k2 : o.kind = 2
              · by_cases k7 : no = 7
                · have d2 : (o.kind != 2) = false := by simpa using k2
                  have d7 : ((no : Int) != 7) = false := by simp; omega
                  go_wp2_with fail
                  go_meet
                  exact ⟨hchs _, by simpa [k2, k7] using hset false⟩
                · have d2 : (o.kind != 2) = false := by simpa using k2
                  have d7 : ((no : Int) != 7) = true := by simp; omega
                  go_wp2_with fail
                  go_meet
                  exact ⟨hchs _, by simpa [k2, k7] using hset true⟩
              · have d2 : (o.kind != 2) = true := by simpa using k2
                go_wp2_with fail
                go_meet
                exact ⟨hchs _, by simpa [k2] using hset true⟩
          case rest =>
          obtain ⟨hc10, hW10⟩ := hcut
          have hDSc := hDS9.take hc10 hW10
          have hOc := hO9.chg hc10 (by omega)
          have hcf := hcr9.trans hc10
          have hitf : RItsP 6 (MD rb wb) wc ao2 cap2 o.lst := hif9.imp fun k hk => ⟨hk, hc10.block k (by have := hk.2; have := hDS9.hw.lt; omega) (Nat.ne_of_lt hk.2)⟩
          have hrn : wr.heap.size ≤ wc.heap.size := hcf.size
          have hlf : ∀ k, MD rb wb k → k < wc.heap.size := fun k hk => by have := hk.2; have := hDSc.hw.lt; omega
          have heb := hDSc.he.lt
          have hobl := hOc.lt
          clear hc10 hW10 hDS9 hO9 hcr9 hif9 e0 f0 q0 q1 q2 q3
          obtain ⟨n0, hn0⟩ : ∃ c, c = wc.heap.size := ⟨_, rfl⟩
          go_upto_region 23 with fail
          refine wp_region_flta (fun k => k = wb) (fun wx => n0 ≤ wx.heap.size ∧ wx.cell? ⟨tb, 0, none⟩ = some (tkF wb) ∧ wx.cell? ⟨ob, 3, none⟩ = some (.slice ao2 no cap2)) 30
            [0, 1, 2, 5, 6, 7, 10, 11, 12, 14, 15, 16, 19, 20, 21, 24, 25, 26, 3, 4, 8, 9, 13, 17, 18, 22, 23, 27, 28] [3, 8, 13, 17, 22, 27] 29 n0 #[.int .i64 0, .slice none 0 0, .int .i64 0, .int .u32 0, .int .i64 0, .int .i64 0, .int .u32 0] 47
            (by kernel_rfl) (by kernel_rfl) rfl rfl ?hrun (fun d _ _ _ _ h => by cases d <;> exact h) (fun d _ _ _ _ h => by cases d <;> exact h) (fun k hk => by omega) (fun u hu => hu.1) ?hSa ⟨Nat.le_of_eq hn0, hDSc.ht, hOc.cellAt rfl⟩ (fun hHeld => ?hgo)
          case hrun =>
            intro a u
            go_simp
          case hSa =>
            rintro u ⟨h1, h2, h3⟩
            exact ⟨by simp; omega, cellkeep (below_alloc1 u _) h2, cellkeep (below_alloc1 u _) h3⟩
          case hgo =>
          simp only [List.take_succ_cons, List.take_zero, List.drop_succ_cons, List.drop_zero, pickN, Nat.reduceSub]
          replace hDSc := hDSc.drew
          replace hitf : RItsP 6 (MD rb wb) wc.drew ao2 cap2 o.lst := hitf.imp fun b hb => ⟨hb, rfl⟩
          replace hlf : ∀ k, MD rb wb k → k < wc.drew.heap.size := hlf
          replace hcf := hcf.drew
          have hSk : ∀ u u' : World, (n0 ≤ u.heap.size ∧ u.cell? ⟨tb, 0, none⟩ = some (tkF wb) ∧ u.cell? ⟨ob, 3, none⟩ = some (.slice ao2 no cap2)) → Chg (fun k => k = wb) u u' → (n0 ≤ u'.heap.size ∧ u'.cell? ⟨tb, 0, none⟩ = some (tkF wb) ∧ u'.cell? ⟨ob, 3, none⟩ = some (.slice ao2 no cap2)) := by
            rintro u u' ⟨h1, h2, h3⟩ hc
            exact ⟨Nat.le_trans h1 hc.size, (hc.cell (p := ⟨tb, 0, none⟩) (World.lt_of_cell h2) (by have := hDSc.o3; simp; omega)).trans h2, (hc.cell (p := ⟨ob, 3, none⟩) (World.lt_of_cell h3) (by simp; omega)).trans h3⟩
          replace hSk := Lib.hid hSk
          unfold tkF
          iterate 18 (refine wpMidF_q rfl rfl ⟨?_, ?_, ?_⟩; rotate_left; (focus (intro wx hSx; obtain ⟨hSx1, hSx2, hSx3⟩ := hSx; (try dsimp only at hSx1 hSx2 hSx3); go_simp; (try with_reducible rfl))); (simp only [Act.put, List.setIfInBounds_toArray, List.set_cons_zero, List.set_cons_succ]))
          refine wpMidF_s rfl rfl (fun wf hbf hSf K' hK => ?_)
          try dsimp only at hbf hSf
          have hDSf := hDSc.below hbf
          have hiff := hitf.imp fun b hb => (⟨hb, hbf.block b (hlf b hb)⟩ : MD rb wb b ∧ wf.heap[b]? = _)
          have hT := take_any 5 (MD rb wb) o.lst ao2 cap2 0 0 _ wb wf hiff (fun b hb => Nat.lt_of_lt_of_le (hlf b hb) hbf.size) hDSf.hw (by omega)
          rw [← hno.out] at hT
          obtain ⟨y0, hxy0⟩ : ∃ x, x = tkI o.lst 0 0 := ⟨_, rfl⟩
          rw [← hxy0] at hT
          replace hxy0 := Lib.hid hxy0
          go_simp
          refine hT.mono ?_
          rintro e uc ⟨pc, hpc, rfl, hzy0, _, _, hchc, hWc⟩
          dsimp only
          clear hT hpc hDSc
          have hDSc := hDSf.take hchc hWc
          replace hcf := hcf.trans (((Chg.of_below hbf).mono (fun k h1 h2 => absurd h2 (by omega))).trans hchc)
          have hSc := hSk.out _ _ hSf hchc
          replace hlf := fun b hb => Nat.lt_of_lt_of_le (hlf b hb) (Nat.le_trans hbf.size hchc.size)
          replace hitf := hiff.imp fun b hb => (⟨hb, hchc.block b (Nat.lt_of_lt_of_le hb.2 (by have := hDSf.hw.lt; omega)) (Nat.ne_of_lt hb.2)⟩ : MD rb wb b ∧ uc.heap[b]? = _)
          refine hK.out _ _ hchc hSc ?_
          clear hK K' hchc hWc hSf hbf hDSf hiff hSc wf
          try simp only [Act.put, List.setIfInBounds_toArray, List.set_cons_zero, List.set_cons_succ]
          (refine wpMidF_q rfl rfl ⟨?_, ?_, ?_⟩; rotate_left; (focus (intro wx hSx; obtain ⟨hSx1, hSx2, hSx3⟩ := hSx; (try dsimp only at hSx1 hSx2 hSx3); go_simp; (try with_reducible rfl))); (simp only [Act.put, List.setIfInBounds_toArray, List.set_cons_zero, List.set_cons_succ]))
          refine wpMidF_s rfl rfl (fun wf hbf hSf K' hK => ?_)
          try dsimp only at hbf hSf
          have hDSf := hDSc.below hbf
          have hiff := hitf.imp fun b hb => (⟨hb, hbf.block b (hlf b hb)⟩ : MD rb wb b ∧ wf.heap[b]? = _)
          have hT := take_any 5 (MD rb wb) o.lst ao2 cap2 2 0 _ wb wf hiff (fun b hb => Nat.lt_of_lt_of_le (hlf b hb) hbf.size) hDSf.hw (by omega)
          rw [← hno.out] at hT
          obtain ⟨y2, hxy2⟩ : ∃ x, x = tkI o.lst 2 0 := ⟨_, rfl⟩
          rw [← hxy2] at hT
          replace hxy2 := Lib.hid hxy2
          go_simp
          refine hT.mono ?_
          rintro e uc ⟨pc, hpc, rfl, hzy2, _, _, hchc, hWc⟩
          dsimp only
          clear hT hpc hDSc
          have hDSc := hDSf.take hchc hWc
          replace hcf := hcf.trans (((Chg.of_below hbf).mono (fun k h1 h2 => absurd h2 (by omega))).trans hchc)
          have hSc := hSk.out _ _ hSf hchc
          replace hlf := fun b hb => Nat.lt_of_lt_of_le (hlf b hb) (Nat.le_trans hbf.size hchc.size)
          replace hitf := hiff.imp fun b hb => (⟨hb, hchc.block b (Nat.lt_of_lt_of_le hb.2 (by have := hDSf.hw.lt; omega)) (Nat.ne_of_lt hb.2)⟩ : MD rb wb b ∧ uc.heap[b]? = _)
          refine hK.out _ _ hchc hSc ?_
          clear hK K' hchc hWc hSf hbf hDSf hiff hSc wf
          try simp only [Act.put, List.setIfInBounds_toArray, List.set_cons_zero, List.set_cons_succ]
          (refine wpMidF_q rfl rfl ⟨?_, ?_, ?_⟩; rotate_left; (focus (intro wx hSx; obtain ⟨hSx1, hSx2, hSx3⟩ := hSx; (try dsimp only at hSx1 hSx2 hSx3); go_simp; (try with_reducible rfl))); (simp only [Act.put, List.setIfInBounds_toArray, List.set_cons_zero, List.set_cons_succ]))
          refine wpMidF_s rfl rfl (fun wf hbf hSf K' hK => ?_)
          try dsimp only at hbf hSf
          have hDSf := hDSc.below hbf
          have hiff := hitf.imp fun b hb => (⟨hb, hbf.block b (hlf b hb)⟩ : MD rb wb b ∧ wf.heap[b]? = _)
          have hT := dnum_any 5 (MD rb wb) o.lst ao2 cap2 3 _ wb tb wf hiff (fun b hb => Nat.lt_of_lt_of_le (hlf b hb) hbf.size) hDSf.hw hDSf.ht (by omega)
          rw [← hno.out] at hT
          go_simp
          refine hT.mono ?_
          rintro e uc ⟨rfl, hchc, hWc⟩
          dsimp only
          clear hT hDSc
          have hDSc := hDSf.take hchc hWc
          replace hcf := hcf.trans (((Chg.of_below hbf).mono (fun k h1 h2 => absurd h2 (by omega))).trans hchc)
          have hSc := hSk.out _ _ hSf hchc
          replace hlf := fun b hb => Nat.lt_of_lt_of_le (hlf b hb) (Nat.le_trans hbf.size hchc.size)
          replace hitf := hiff.imp fun b hb => (⟨hb, hchc.block b (Nat.lt_of_lt_of_le hb.2 (by have := hDSf.hw.lt; omega)) (Nat.ne_of_lt hb.2)⟩ : MD rb wb b ∧ uc.heap[b]? = _)
          refine hK.out _ _ hchc hSc ?_
          clear hK K' hchc hWc hSf hbf hDSf hiff hSc wf
          try simp only [Act.put, List.setIfInBounds_toArray, List.set_cons_zero, List.set_cons_succ]
          refine wpMidF_s rfl rfl (fun wf hbf hSf K' hK => ?_)
          try dsimp only at hbf hSf
          have hDSf := hDSc.below hbf
          have hiff := hitf.imp fun b hb => (⟨hb, hbf.block b (hlf b hb)⟩ : MD rb wb b ∧ wf.heap[b]? = _)
          have hT := take_any 5 (MD rb wb) o.lst ao2 cap2 4 0 _ wb wf hiff (fun b hb => Nat.lt_of_lt_of_le (hlf b hb) hbf.size) hDSf.hw (by omega)
          rw [← hno.out] at hT
          obtain ⟨y4, hxy4⟩ : ∃ x, x = tkI o.lst 4 0 := ⟨_, rfl⟩
          rw [← hxy4] at hT
          replace hxy4 := Lib.hid hxy4
          go_simp
          refine hT.mono ?_
          rintro e uc ⟨pc, hpc, rfl, hzy4, _, _, hchc, hWc⟩
          dsimp only
          clear hT hpc hDSc
          have hDSc := hDSf.take hchc hWc
          replace hcf := hcf.trans (((Chg.of_below hbf).mono (fun k h1 h2 => absurd h2 (by omega))).trans hchc)
          have hSc := hSk.out _ _ hSf hchc
          replace hlf := fun b hb => Nat.lt_of_lt_of_le (hlf b hb) (Nat.le_trans hbf.size hchc.size)
          replace hitf := hiff.imp fun b hb => (⟨hb, hchc.block b (Nat.lt_of_lt_of_le hb.2 (by have := hDSf.hw.lt; omega)) (Nat.ne_of_lt hb.2)⟩ : MD rb wb b ∧ uc.heap[b]? = _)
          refine hK.out _ _ hchc hSc ?_
          clear hK K' hchc hWc hSf hbf hDSf hiff hSc wf
          try simp only [Act.put, List.setIfInBounds_toArray, List.set_cons_zero, List.set_cons_succ]
          (refine wpMidF_q rfl rfl ⟨?_, ?_, ?_⟩; rotate_left; (focus (intro wx hSx; obtain ⟨hSx1, hSx2, hSx3⟩ := hSx; (try dsimp only at hSx1 hSx2 hSx3); go_simp; (try with_reducible rfl))); (simp only [Act.put, List.setIfInBounds_toArray, List.set_cons_zero, List.set_cons_succ]))
          refine wpMidF_s rfl rfl (fun wf hbf hSf K' hK => ?_)
          try dsimp only at hbf hSf
          have hDSf := hDSc.below hbf
          have hiff := hitf.imp fun b hb => (⟨hb, hbf.block b (hlf b hb)⟩ : MD rb wb b ∧ wf.heap[b]? = _)
          have hT := take_any 5 (MD rb wb) o.lst ao2 cap2 5 0 _ wb wf hiff (fun b hb => Nat.lt_of_lt_of_le (hlf b hb) hbf.size) hDSf.hw (by omega)
          rw [← hno.out] at hT
          obtain ⟨y5, hxy5⟩ : ∃ x, x = tkI o.lst 5 0 := ⟨_, rfl⟩
          rw [← hxy5] at hT
          replace hxy5 := Lib.hid hxy5
          go_simp
          refine hT.mono ?_
          rintro e uc ⟨pc, hpc, rfl, hzy5, _, _, hchc, hWc⟩
          dsimp only
          clear hT hpc hDSc
          have hDSc := hDSf.take hchc hWc
          replace hcf := hcf.trans (((Chg.of_below hbf).mono (fun k h1 h2 => absurd h2 (by omega))).trans hchc)
          have hSc := hSk.out _ _ hSf hchc
          replace hlf := fun b hb => Nat.lt_of_lt_of_le (hlf b hb) (Nat.le_trans hbf.size hchc.size)
          replace hitf := hiff.imp fun b hb => (⟨hb, hchc.block b (Nat.lt_of_lt_of_le hb.2 (by have := hDSf.hw.lt; omega)) (Nat.ne_of_lt hb.2)⟩ : MD rb wb b ∧ uc.heap[b]? = _)
          refine hK.out _ _ hchc hSc ?_
          clear hK K' hchc hWc hSf hbf hDSf hiff hSc wf
          try simp only [Act.put, List.setIfInBounds_toArray, List.set_cons_zero, List.set_cons_succ]
          (refine wpMidF_q rfl rfl ⟨?_, ?_, ?_⟩; rotate_left; (focus (intro wx hSx; obtain ⟨hSx1, hSx2, hSx3⟩ := hSx; (try dsimp only at hSx1 hSx2 hSx3); go_simp; (try with_reducible rfl))); (simp only [Act.put, List.setIfInBounds_toArray, List.set_cons_zero, List.set_cons_succ]))
          refine wpMidF_s rfl rfl (fun wf hbf hSf K' hK => ?_)
          try dsimp only at hbf hSf
          have hDSf := hDSc.below hbf
          have hiff := hitf.imp fun b hb => (⟨hb, hbf.block b (hlf b hb)⟩ : MD rb wb b ∧ wf.heap[b]? = _)
          have hT := dnum_any 5 (MD rb wb) o.lst ao2 cap2 6 _ wb tb wf hiff (fun b hb => Nat.lt_of_lt_of_le (hlf b hb) hbf.size) hDSf.hw hDSf.ht (by omega)
          rw [← hno.out] at hT
          go_simp
          refine hT.mono ?_
          rintro e uc ⟨rfl, hchc, hWc⟩
          dsimp only
          clear hT hDSc
          have hDSc := hDSf.take hchc hWc
          replace hcf := hcf.trans (((Chg.of_below hbf).mono (fun k h1 h2 => absurd h2 (by omega))).trans hchc)
          have hSc := hSk.out _ _ hSf hchc
          replace hlf := fun b hb => Nat.lt_of_lt_of_le (hlf b hb) (Nat.le_trans hbf.size hchc.size)
          replace hitf := hiff.imp fun b hb => (⟨hb, hchc.block b (Nat.lt_of_lt_of_le hb.2 (by have := hDSf.hw.lt; omega)) (Nat.ne_of_lt hb.2)⟩ : MD rb wb b ∧ uc.heap[b]? = _)
          refine hK.out _ _ hchc hSc ?_
          clear hK K' hchc hWc hSf hbf hDSf hiff hSc wf
          try simp only [Act.put, List.setIfInBounds_toArray, List.set_cons_zero, List.set_cons_succ]
          (refine wpMidF_q rfl rfl ⟨?_, ?_, ?_⟩; rotate_left; (focus (intro wx hSx; obtain ⟨hSx1, hSx2, hSx3⟩ := hSx; (try dsimp only at hSx1 hSx2 hSx3); go_simp; (try with_reducible rfl))); (simp only [Act.put, List.setIfInBounds_toArray, List.set_cons_zero, List.set_cons_succ]))
          refine wpMidF_nil (fun w1 hbf hSf pb w2 hbf2 hpn hP => ?_)
          try dsimp only at hbf hSf
          replace hbf := Below.trans hbf (Below.mono hbf2 hbf.size)
          replace hDSc := hDSc.below hbf
          replace hitf := hitf.imp fun b hb => (⟨hb, hbf.block b (hlf b hb)⟩ : MD rb wb b ∧ w2.heap[b]? = _)
          replace hcf := hcf.trans ((Chg.of_below hbf).mono (fun k h1 h2 => absurd h2 (by omega)))
          replace hSf := hSk.out _ _ (hSf) ((Chg.of_below hbf2).mono (fun k h1 h2 => absurd h2 (by omega)))
          clear hbf hbf2 hSk hlf hHeld
          obtain ⟨p0, p1, p2, p3, p4, p5, p6⟩ := blk7 hP
          have pf := fun i => hP.frozen i
          go_upto_region 24 with fail
          refine Code.wp_world ?_
          intro w3 hw3
          have hP3 : Blk w3 pb #[.int .i64 y0.num, .slice none 0 0, .int .i64 y2.num, .int .u32 (numV o.lst 3), .int .i64 y4.num, .int .i64 y5.num, .int .u32 (numV o.lst 6)] 47 := by
            rw [hw3]
            exact ((((((hP.set 0 _).set 1 _).set 2 _).set 3 _).set 4 _).set 5 _).set 6 _
          have hc3 : Chg (fun k => k = pb) w2 w3 := by
            rw [hw3]
            repeat (refine Chg.setCell ?_ _ _ (fun _ => rfl))
            exact Chg.refl _ _
          have hDS3 := hDSc.chg hc3 (fun k hk e => by omega)
          have hit3 : RItsP 6 (MD rb wb) w3 ao2 cap2 o.lst := hitf.imp fun k hk => ⟨hk, hc3.block k (by have := hk.2; have := hDSc.hw.lt; omega) (by have := hk.2; omega)⟩
          have hcf3 := hcf.then_new hc3 (fun k hk e => by omega)
          have hO3 : w3.cell? ⟨ob, 3, none⟩ = some (.slice ao2 no cap2) := (hc3.cell (p := ⟨ob, 3, none⟩) (World.lt_of_cell hSf.2.2) (by simp; omega)).trans hSf.2.2
          have ht3 := hDS3.ht
          unfold tkF at ht3
          clear hw3 p0 p1 p2 p3 p4 p5 p6 pf hP hc3 hDSc hitf hcf hSf hOc
          have hT := take_any 5 (MD rb wb) o.lst ao2 cap2 1 2 _ wb w3 hit3 (fun k hk => by have := hk.2; have := hDS3.hw.lt; omega) hDS3.hw (by omega)
          rw [← hno.out] at hT
          obtain ⟨y1, hy1⟩ : ∃ x, x = tkI o.lst 1 2 := ⟨_, rfl⟩
          rw [← hy1] at hT
          have hcy1 : cntL y1.lst ≤ 4096 := by rw [hy1]; exact Nat.le_trans (cnt_tk _ _ _) hco
          replace hy1 := Lib.hid hy1
          replace hn0 := Lib.hid hn0
          go_wp2_with (go_at_call 25; refine Shut.out ?kt5)
          unfold Shut
          refine hT.mono ?_
          rintro e w4 ⟨⟨y1', ao5, cap5⟩, hp, rfl, _, _, hit4, hch4, hW4⟩
          dsimp only at hp hit4 ⊢
          subst hp
          have hDS4 := hDS3.take hch4 hW4
          have hpw : wb < pb ∧ eb < pb ∧ wr.heap.size ≤ pb := by have := hn0.out; omega
          have hP4 := hP3.chg hch4 (by omega)
          have hcf4 := hcf3.trans hch4
          obtain ⟨bT, hbT, hDS4⟩ : ∃ bT, bT = _ ∧ DS w w4 rb wb tb eb bT _ v := ⟨_, rfl, hDS4⟩
          obtain ⟨mi, hmi⟩ : ∃ k, k = y1'.lst.length := ⟨_, rfl⟩
          have hmi4 : mi ≤ 4096 := by rw [hmi]; exact Nat.le_trans (len_cnt _) hcy1
          rw [← hmi]
          have hs4 : pb < w4.heap.size := hP4.lt
          have hcf4s : wr.heap.size ≤ w4.heap.size := hcf4.size
          have hlw4 : wb < w4.heap.size := by omega
          clear hT hDS3 hP3 hcf3 hit3 hch4 hW4 hO3 ht3 hcy1
          replace hbT := Lib.hid hbT
          replace hmi := Lib.hid hmi
          go_wp2_with fail
          obtain ⟨wq, rfl⟩ : ∃ x, x = wr := ⟨_, rfl⟩
          go_loopw [125] (fun x125 wr => ∃ (j : Nat) (b2 : Bool) (vin : Value), j ≤ mi ∧ x125 = .int .i64 j ∧ DS w wr rb wb tb eb b2 ⟨3, zRec, ⟨ps.map (·.x)⟩, 0⟩ v ∧ b2 = (bT || !(y1'.lst.take j).all (fun q => decide (q.kind = 0))) ∧
            Blk wr pb #[.int .i64 y0.num, vin, .int .i64 y2.num, .int .u32 (numV o.lst 3), .int .i64 y4.num, .int .i64 y5.num, .int .u32 (numV o.lst 6)] 47 ∧
            OwnL encN wr w4.heap.size 3 1 vin ((y1'.lst.take j).map Itm.num) ∧ Chg (fun k => k = wb) wq wr ∧ Chg (fun k => wb ≤ k) w4 wr) (fun x125 _ => mi - (intOf x125).toNat)
          case atStart => exact ⟨0, _, _, Nat.zero_le _, rfl, hDS4, by simp, hP4, OwnL.nil _ _ _ _ _, hcf4, Chg.refl _ _⟩
          case round =>
            clear hDS4 hP4 hcf4
            obtain ⟨j, b2, vin, hj, rfl, hDSi, hb2, hPi, hown, hcfi, hchi⟩ := hrel
            obtain ⟨aoI, capI, hvv, _, _, _⟩ := hown.slice
            subst hvv
            have hsz4 := hchi.size
            have hlj : ((y1'.lst.take j).map Itm.num).length = j := by rw [List.length_map, List.length_take, ← hmi.out]; omega
            by_cases hjm : j < mi
            · have hjx : j < y1'.lst.length := by rw [← hmi.out]; exact hjm
              obtain ⟨q, hq⟩ : ∃ q, y1'.lst[j] = q := ⟨_, rfl⟩
              have htj1 : (y1'.lst.take (j + 1)).all (fun q => decide (q.kind = 0)) = ((y1'.lst.take j).all (fun q => decide (q.kind = 0)) && decide (q.kind = 0)) := by rw [List.take_add_one, List.getElem?_eq_getElem hjx, hq, List.all_append]; simp
              have htj2 : (y1'.lst.take (j + 1)).map Itm.num = (y1'.lst.take j).map Itm.num ++ [q.num] := by rw [List.take_add_one, List.getElem?_eq_getElem hjx, hq, List.map_append]; rfl
              have hiti : RItsP 5 (MD rb wb) wr ao5 cap5 y1'.lst := hit4.imp fun k hk => ⟨hk, hchi.block k (by have := hk.2; omega) (by have := hk.2; omega)⟩
              obtain ⟨b5, rfl, hDb5⟩ := hiti.addr (by omega)
              obtain ⟨ao6, cap6, g0, g1, g2, g3, _, _, _, _⟩ := hiti.at hjx hq
              have hb5w : b5 < wr.heap.size := by have := hDb5.2; omega
              obtain ⟨nq, hnq⟩ : ∃ k, k = q.lst.length := ⟨_, rfl⟩
              rw [← hnq] at g3
              rw [hlj] at hown hPi
              clear hiti hDb5 hnq
              replace hq := Lib.hid hq
              replace htj1 := Lib.hid htj1
              replace htj2 := Lib.hid htj2
              replace hb2 := Lib.hid hb2
              replace hlj := Lib.hid hlj
              go_upto_region 27 with fail
              refine Code.wp_world ?_
              intro wA hwA
              obtain ⟨ib, hib⟩ : ∃ c, c = wr.heap.size := ⟨_, rfl⟩
              have hIA : Blk wA ib #[.int .i64 q.kind, .int .i64 q.num, .string q.txt, .slice ao6 nq cap6] 50 := by rw [hwA, hib]; exact Blk.new _ _ _
              have hbA : Below wr.heap.size wr wA := by rw [hwA]; exact below_alloc1 _ _
              have hDSA := hDSi.below hbA
              have hPA := hPi.below hbA hPi.lt
              have hownA := hown.below hbA (Nat.le_refl _)
              have hcfA := hcfi.trans ((Chg.of_below hbA).mono (fun k h1 h2 => absurd h2 (by have := hcfi.size; omega)))
              have hchA := hchi.trans ((Chg.of_below hbA).mono (T := fun k => wb ≤ k) (fun k h1 h2 => absurd h2 (by omega)))
              have hibs : wb < ib ∧ eb < ib := by have := hDSi.he.lt; have := hDSi.hw.lt; omega
              rw [← hib]
              clear hwA g0 g1 g2 g3 hDSi hPi hown hcfi hchi hbA
              replace hib := Lib.hid hib
              have e0 : wA.cell? ⟨wb, 0, none⟩ = some (.bool b2) := hDSA.hw.cellAt rfl
              have f0 := hDSA.hw.frozen 0
              have i0 : wA.cell? ⟨ib, 0, none⟩ = some (.int .i64 q.kind) := hIA.cellAt rfl
              go_cut [] from 129 to 134 (fun wx => Chg (fun k => k = wb) wA wx ∧ Blk wx wb #[.bool (b2 || !decide (q.kind = 0))] 4)
              case first =>
                have hset := fun (u : Bool) => hDSA.hw.set 0 (.bool u)
                have hchs := fun (u : Bool) => (Chg.refl (fun k => k = wb) wA).setCell ⟨wb, 0, none⟩ (.bool u) (fun _ => rfl)
                clear hb2 hDSA
                cases b2 with
                | true =>
                  go_wp2_with fail
                  go_meet
                  exact ⟨hchs _, by simpa using hset true⟩
                | false =>
                  by_cases k2 : q.kind = 0
                  · have d2 : (q.kind != 0) = false := by simpa using k2
                    go_wp2_with fail
                    go_meet
                    exact ⟨hchs _, by simpa [k2] using hset false⟩
                  · have d2 : (q.kind != 0) = true := by simpa using k2
                    go_wp2_with fail
                    go_meet
                    exact ⟨hchs _, by simpa [k2] using hset true⟩
              case rest =>
              obtain ⟨hcB, hWB⟩ := hcut
              have hDSB := hDSA.take hcB hWB
              have hPB := hPA.chg hcB (by omega)
              have hIB := hIA.chg hcB (by omega)
              have hownB := hownA.chg hcB (fun g hg e => by have := (hownA.lt g hg).1; omega)
              have hcfB := hcfA.trans hcB
              have hchB := hchA.trans (hcB.mono (T := fun k => wb ≤ k) (fun k h1 h2 => Nat.le_of_eq h2.symm))
              have hszB : w4.heap.size ≤ wc.heap.size := hchB.size
              clear hDSA hPA hIA hownA hcfA hchA e0 f0 i0 hcB hWB
              have p1 : wc.cell? ⟨pb, 1, none⟩ = some (.slice aoI j capI) := hPB.cellAt rfl
              have i1 : wc.cell? ⟨ib, 1, none⟩ = some (.int .i64 q.num) := hIB.cellAt rfl
              obtain ⟨jN, hiN, hN0, hN1, hN2⟩ := info_parts infoN
              go_wp2_with (at_builtin; refine Shut.out ?kap)
              unfold Shut
              refine wpList_app1g rfl _ _ 45 rfl Try.underlying45 hiN hN0 hN1 hN2 rfl (by decide) (enc := encN) q.num rfl (xs := (y1'.lst.take j).map Itm.num) hownB rfl (encN_len _) (encN_one _) (by rw [hlj.out]; omega) (by rw [hlj.out]; unfold maxLen; omega) hszB (fun g cap7 w7 hown7 hgr7 => ?_)
              rw [hlj.out] at hown7 hgr7 ⊢
              rw [← htj2.out] at hown7
              have hgc : Chg (fun k => w4.heap.size ≤ k) wc w7 := (Chg.of_grown hgr7.grown).mono (fun k h1 h2 => (hownB.lt k h2).1)
              have hP7 := hgr7.blk hPB (hownB.ne_blk hPB (by decide))
              have hDS7 := hDSB.chg hgc (fun k hk e => by omega)
              have hcf7 := hcfB.then_new hgc (fun k hk e => by omega)
              have hch7 := hchB.trans (hgc.mono (T := fun k => wb ≤ k) (fun k h1 h2 => by omega))
              have p7 : w7.cell? ⟨pb, 1, none⟩ = some (.slice aoI j capI) := hP7.cellAt rfl
              have f7 := hP7.frozen 1
              have hown8 := hown7.chg ((Chg.refl (fun k => k = pb) w7).setCell ⟨pb, 1, none⟩ (.slice (some ⟨g, 0, none⟩) (j + 1) cap7) (fun _ => rfl)) (fun g' hg' e => by have := (hown7.lt g' hg').1; omega)
              have hP8 := hP7.set 1 (.slice (some ⟨g, 0, none⟩) (j + 1) cap7)
              have hDS8 := hDS7.chg ((Chg.refl (fun k => k = pb) w7).setCell ⟨pb, 1, none⟩ (.slice (some ⟨g, 0, none⟩) (j + 1) cap7) (fun _ => rfl)) (fun k hk e => by omega)
              have hcf8 := hcf7.then_new ((Chg.refl (fun k => k = pb) w7).setCell ⟨pb, 1, none⟩ (.slice (some ⟨g, 0, none⟩) (j + 1) cap7) (fun _ => rfl)) (fun k hk e => by omega)
              have hch8 := hch7.trans ((Chg.refl (fun k => wb ≤ k) w7).setCell ⟨pb, 1, none⟩ (.slice (some ⟨g, 0, none⟩) (j + 1) cap7) (fun _ => by simp; omega))
              clear hgr7 hownB hPB hDSB hcfB hchB hgc hDS7 hcf7 hch7 hown7 hP7 hIB p1 i1
              go_wp2_with fail
              go_roundw
              case rel => exact ⟨j + 1, _, _, by omega, rfl, hDS8, by rw [htj1.out, hb2.out, Bool.not_and, Bool.or_assoc], hP8, hown8, hcf8, hch8⟩
              case measure => simp [intOf]; omega
            · obtain rfl : j = mi := by omega
              have hfull : y1'.lst.take j = y1'.lst := List.take_of_length_le (by rw [← hmi.out]; exact Nat.le_refl _)
              rw [hfull] at hb2 hown hPi hlj
              have hwfi : ∀ n ∈ y1'.lst.map Itm.num, (Lit.int IntKind.i64 n).wf = true := by
                intro n hn
                obtain ⟨q, hq, rfl⟩ := List.mem_map.1 hn
                exact wfI_num (wfL_mem (RIts.wf (hit4.rits (B := wb) (fun k hk => hk.2))) hq)
              obtain ⟨aoJ, capJ, hej, hsI⟩ := SlP.of_ints (D := fun k => w4.heap.size ≤ k ∧ k < wr.heap.size) hown hwfi (fun g hg => hown.lt g hg)
              simp only [Value.slice.injEq] at hej
              obtain ⟨rfl, _, rfl⟩ := hej
              obtain ⟨p, hp⟩ : ∃ p : POp, p = ⟨⟨y0.num, y1'.lst.map Itm.num, y2.num, numV o.lst 3, y4.num, y5.num, numV o.lst 6⟩, aoI, capI⟩ := ⟨_, rfl⟩
              have hpx : p.x = opV o := by rw [hp, opV, tkN, tkN, tkN, tkN, ← hxy0.out, ← hxy2.out, ← hxy4.out, ← hxy5.out, ← hy1.out]
              have hpI : InP (fun k => wq.heap.size ≤ k ∧ k < wr.heap.size) wr p := by
                rw [hp]
                exact ⟨⟨hzy0, hwfi, hzy2, wrap_u32_wf _, hzy4, hzy5, wrap_u32_wf _⟩, hsI.imp (fun k hk => ⟨⟨by have := hcf4s; omega, hk.2⟩, rfl⟩) (fun _ _ _ h => h)⟩
              have hopsi := hops.chg hcfi (fun k hk e => by have := hDSi.o3; have := hDSi.o4; omega)
              obtain ⟨nI, hnI⟩ : ∃ k, k = (y1'.lst.map Itm.num).length := ⟨_, rfl⟩
              rw [← hnI] at hPi
              obtain ⟨k0', k1', k2', k3', k4', k5', k6'⟩ := blk7 hPi
              have hE6 : wr.cell? ⟨eb, 6, none⟩ = some v := hDSi.he.cellAt rfl
              obtain ⟨aov, capv, hvv2, _, _, _⟩ := hops.1.slice
              subst hvv2
              obtain ⟨jO, hiO, hO0, hO1, hO2⟩ := info_parts infoO
              have hebs : eb + 1 ≤ wr.heap.size := by have := hDSi.he.lt; omega
              have hebq : eb + 1 ≤ wq.heap.size := by have := hob.out; omega
              rw [hpsl.out] at hE6 hDSi hopsi
              have hpe : (#[.int .i64 y0.num, .slice aoI nI capI, .int .i64 y2.num, .int .u32 (numV o.lst 3), .int .i64 y4.num, .int .i64 y5.num, .int .u32 (numV o.lst 6)] : Array Value) = (encO p).toArray := by rw [hp, hnI]; rfl
              replace hpe := Lib.hid hpe
              replace hp := Lib.hid hp
              replace hpx := Lib.hid hpx
              replace hb2 := Lib.hid hb2
              replace hnI := Lib.hid hnI
              replace hlj := Lib.hid hlj
              replace hwfi := Lib.hid hwfi
              clear hPi hown hsI
              go_wp2_with (at_builtin; refine Shut.out ?kap2)
              unfold Shut
              rw [hpe.out]
              refine wpList_app1g rfl _ _ 25 rfl Try.underlying25 hiO hO0 hO1 hO2 rfl (by decide) (enc := encO) p rfl hopsi.1 rfl (encO_len _) (encO_one _) (by rw [hpsl.out]; omega) (by rw [hpsl.out]; unfold maxLen; omega) hebs (fun g cap7 w7 hown7 hgr7 => ?_)
              rw [hpsl.out] at hown7 hgr7 ⊢
              have hgc : Chg (fun k => eb + 1 ≤ k) wr w7 := (Chg.of_grown hgr7.grown).mono (fun k h1 h2 => (hopsi.1.lt k h2).1)
              have hopsq := hops
              rw [hpsl.out] at hopsq
              have hwbe : wb < eb := by have := hDSi.o3; have := hDSi.o4; omega
              have hops7 := hopsq.snoc hebq hcfi (fun k hk e => by omega) hown7 hgr7 hpI
              have hDS7 := hDSi.chg hgc (fun k hk e => by omega)
              have e7 : w7.cell? ⟨eb, 6, none⟩ = some (.slice aov i capv) := hDS7.he.cellAt rfl
              have f7 := hDS7.he.frozen 6
              have hset := (Chg.refl (fun k => k = eb) w7).setCell ⟨eb, 6, none⟩ (.slice (some ⟨g, 0, none⟩) (i + 1) cap7) (fun _ => rfl)
              have hops8 := hops7.chg hset (fun k hk e => by omega)
              have hDS8 := hDS7.setE (i := 6) (y := .slice (some ⟨g, 0, none⟩) (i + 1) cap7) (v := .slice (some ⟨g, 0, none⟩) (i + 1) cap7) (x := ⟨3, zRec, ⟨(ps ++ [p]).map (·.x)⟩, 0⟩) rfl
              have hch8 := ((hch.trans (hcfi.mono (T := fun k => wb ≤ k) (fun k h1 h2 => Nat.le_of_eq h2.symm))).trans (hgc.mono (T := fun k => wb ≤ k) (fun k h1 h2 => by omega))).trans (hset.mono (T := fun k => wb ≤ k) (fun k h1 h2 => by omega))
              clear hgr7 hopsi hops hopsq hDSi hcfi hchi hgc hDS7 hown7 hops7 hset hpI hit4 hch k0' k1' k2' k3' k4' k5' k6' hE6
              go_wp2_with fail
              go_roundw
              case rel =>
                refine ⟨i + 1, b2, ps ++ [p], .slice (some ⟨g, 0, none⟩) (i + 1) cap7, by omega, rfl, hDS8, ?bq, hops8, ?mq, hch8⟩
                case mq =>
                  rw [List.map_append, hpm.out, hti2.out, List.map_singleton, hpx.out]
                case bq =>
                  rw [hb2.out, hbT.out, hti1.out, hb.out, hno.out, op_flag o, ← hy1.out]
                  generalize tkB l 0 0 = c1
                  generalize tkB l 1 2 = c2
                  generalize List.all (List.take i x1'.lst) opB = c3
                  simp only [Bool.not_and, Bool.not_not, Bool.or_assoc]
              case measure => simp [intOf]; omega
        · obtain rfl : i = m := by omega
          have hfull : x1'.lst.take i = x1'.lst := List.take_of_length_le (by rw [← hm.out]; exact Nat.le_refl _)
          rw [hfull] at hb hpm
          go_wp2_with fail
          go_meet
          have hk := hkn.out
          refine ⟨_, _, _, ps, ?_, hDS, ?_, ?_, hops, rfl⟩
          · rw [edC, if_neg (by rw [← hk]; decide)]; rfl
          · rw [edE, if_neg (by rw [← hk]; decide), if_pos hk.symm, hpm, hx1.out]
          · rw [edB, if_neg (by rw [← hk]; decide), if_pos hk.symm, ← hx1.out, hb]
            cases tkB l 0 0 <;> cases tkB l 1 2 <;> rfl
    have c0 : (k == 0) = false := by simpa using k0
    have c1 : (k == 1) = false := by simpa using k1
    have c3 : (k == 3) = false := by simpa using k3
    have hT := take_any 7 (MD rb wb) l ao3 cap3 1 0 (!tkB l 0 0) wb w7 hits6 (hD7.out _ (Nat.le_refl _)) hDS6.hw (by omega)
    rw [← hnl2.out] at hT
    obtain ⟨x1, hx1⟩ : ∃ x, x = tkI l 1 0 := ⟨_, rfl⟩
    rw [← hx1] at hT
    replace hx1 := Lib.hid hx1
    go_wp2_with (go_at_call 25; refine Shut.out ?kt1)
    unfold Shut
    refine hT.mono ?_
    rintro e w8 ⟨p1, hp1, rfl, hz1, _, _, hch8, hW8⟩
    dsimp only
    have hDS8 := hDS6.take hch8 hW8
    clear hT hDS6 hp1
    have e0 : w8.cell? ⟨eb, 7, none⟩ = some (.int .i64 0) := hDS8.he.cellAt rfl
    have f0 := hDS8.he.frozen 7
    go_wp2_with fail
    go_meet
    have hk := hkn.out
    refine ⟨_, _, _, [], ?_, hDS8.setE (i := 7) (v := .slice none 0 0) (x := ⟨k, zRec, ⟨[]⟩, x1.num⟩) rfl, ?_, ?_, hopn.out _, rfl⟩
    · rw [edC, if_neg (by rw [← hk]; exact k1)]; rfl
    · rw [edE, if_neg (by rw [← hk]; exact k1), if_neg (by rw [← hk]; exact k3), if_neg (by rw [← hk]; exact k0), ← hk, hx1.out]; rfl
    · rw [edB, if_neg (by rw [← hk]; exact k1), if_neg (by rw [← hk]; exact k3), if_neg (by rw [← hk]; exact k0)]
      cases tkB l 0 0 <;> cases tkB l 1 0 <;> rfl
  case rest =>
    obtain ⟨b, x, v, ps, rfl, hDS, hx, hb, hops, hpm⟩ := hcut
    obtain ⟨aov, cpv, rfl, hsla⟩ := hops.sla
    rw [hpm] at hsla
    have hpl : ps.length = x.fGraph.fOps.length := by rw [← hpm, List.length_map]
    have hgood := good_any x aov cpv wc wc.heap.size (Nat.le_refl _) hsla
    unfold encE at hgood
    rw [← hpl] at hgood
    obtain ⟨g, hg⟩ : ∃ g, g = goodB x := ⟨_, rfl⟩
    obtain ⟨c, hc⟩ : ∃ c, c = edC l := ⟨_, rfl⟩
    have hedo : edO l = (!b && decide (nl = c) && g) := by rw [edO, ← hx, ← hg, hb, Bool.not_not, ← hc, hnl2.out]
    have hRv := hR.out
    rw [hedo, ← hx] at hRv
    rw [← hg] at hgood
    rw [← hc]
    have hbel := hDS.bel
    have hE := hDS.he
    have hR3 := hDS.hr
    have hop3 : OpsR (eb + 1) wc (.slice aov ps.length cpv) ps := hops
    have hwe : w.heap.size ≤ eb + 1 ∧ rb < eb + 1 := by have := hDS.o1; have := hDS.o2; have := hDS.o3; have := hDS.o4; omega
    have e0 : wc.cell? ⟨wb, 0, none⟩ = some (.bool b) := hDS.hw.cellAt rfl
    have hrE := hDS.o1
    have hebs := hDS.he.lt
    have hrbs := hDS.hr.lt
    have hre : rb ≠ eb := by have := hDS.o2; have := hDS.o3; have := hDS.o4; omega
    obtain ⟨n, hn⟩ : ∃ n, n = ps.length := ⟨_, rfl⟩
    rw [← hn] at hE hgood hop3
    clear hx hb hg hc hedo hpl hops hsla hDS hR hn
    by_cases hok : b = false ∧ nl = c
    case neg =>
      obtain ⟨q0, q1, q2, q3, q4, q5, q6, q7⟩ := blk8 hR3
      have qf := fun i => hR3.frozen i
      have hb2 : (!b && decide (nl = c)) = false := by
        cases b with
        | true => rfl
        | false =>
          have : ¬ nl = c := fun h => hok ⟨rfl, h⟩
          simpa using this
      rw [hb2] at hRv
      simp only [Bool.false_and, Bool.false_eq_true, if_false] at hRv
      subst hRv
      cases b with
      | true =>
        go_wp2_with fail
        refine bodyPost_ret (results_cell_tmp rfl _ _ rb _ rfl (run_loadVar_row _ rb 29 _ _ (0, 0) _ ((((((((hR3.set 0 _).set 1 _).set 2 _).set 3 _).set 4 _).set 5 _).set 6 _).set 7 _) Try.underlying29 rfl (by kernel_rfl))) rfl ?_
        exact ⟨(by repeat (first | with_reducible assumption | with_reducible exact Below.refl _ _ | with_reducible refine below_drewN ?_ _ | with_reducible refine Below.drew ?_ | (refine Below.setCell ?_ (by first | omega | (simp; omega) | simp) _) | (refine Below.alloc ?_ (by first | omega | (simp; omega) | simp) _) | (refine Below.trans ?_ (Below.mono (by with_reducible assumption) (by first | omega | (simp; omega) | simp))))), .slice none 0 0, [], rfl, OpsR.nil _ _, rfl⟩
      | false =>
        have hnc : ((nl : Int) != (c : Int)) = true := by
          have : ¬ nl = c := fun h => hok ⟨rfl, h⟩
          simp; omega
        go_wp2_with fail
        refine bodyPost_ret (results_cell_tmp rfl _ _ rb _ rfl (run_loadVar_row _ rb 29 _ _ (0, 0) _ ((((((((hR3.set 0 _).set 1 _).set 2 _).set 3 _).set 4 _).set 5 _).set 6 _).set 7 _) Try.underlying29 rfl (by kernel_rfl))) rfl ?_
        exact ⟨(by repeat (first | with_reducible assumption | with_reducible exact Below.refl _ _ | with_reducible refine below_drewN ?_ _ | with_reducible refine Below.drew ?_ | (refine Below.setCell ?_ (by first | omega | (simp; omega) | simp) _) | (refine Below.alloc ?_ (by first | omega | (simp; omega) | simp) _) | (refine Below.trans ?_ (Below.mono (by with_reducible assumption) (by first | omega | (simp; omega) | simp))))), .slice none 0 0, [], rfl, OpsR.nil _ _, rfl⟩
    obtain ⟨rfl, rfl⟩ := hok
    have hnc : ((nl : Int) != (nl : Int)) = false := by simp
    simp only [Bool.not_false, decide_true, Bool.true_and] at hRv
    replace hRv := Lib.hid hRv
    obtain ⟨p0', p1', p2', p3', p4', p5', p6', p7'⟩ := blk8 hE
    go_wp2_with (go_at_call 11; refine Shut.out ?kgd)
    unfold Shut
    refine hgood.mono ?_
    rintro e w8 ⟨rfl, hb8⟩
    dsimp only
    have hbel8 := Below.trans hbel (Below.mono hb8 hbel.size)
    have hR8 := hR3.below hb8 hrbs
    have hE8 := hE.below hb8 hebs
    have hop8 := hop3.below hb8 (Nat.le_refl _)
    have hops8 : ∀ (u : World), Chg (fun k => k = rb) w8 u → OpsR w.heap.size u (.slice aov n cpv) ps := fun u hu => (hop8.chg hu (fun k hk e => by have := hwe.2; omega)).base_le hwe.1
    replace hpm := Lib.hid hpm
    replace hops8 := Lib.hid hops8
    clear p0' p1' p2' p3' p4' p5' p6' p7' hgood e0 hR3 hE hop3
    obtain ⟨q0, q1, q2, q3, q4, q5, q6, q7⟩ := blk8 hR8
    have qf := fun i => hR8.frozen i
    cases g with
    | false =>
      have hRv := hRv.out
      rw [if_neg (by simp)] at hRv
      subst hRv
      go_wp2_with fail
      refine bodyPost_ret (results_cell_tmp rfl _ _ rb _ rfl (run_loadVar_row _ rb 29 _ _ (0, 0) _ ((((((((hR8.set 0 _).set 1 _).set 2 _).set 3 _).set 4 _).set 5 _).set 6 _).set 7 _) Try.underlying29 rfl (by kernel_rfl))) rfl ?_
      exact ⟨(by repeat (first | with_reducible assumption | with_reducible exact Below.refl _ _ | with_reducible refine below_drewN ?_ _ | with_reducible refine Below.drew ?_ | (refine Below.setCell ?_ (by first | omega | (simp; omega) | simp) _) | (refine Below.alloc ?_ (by first | omega | (simp; omega) | simp) _) | (refine Below.trans ?_ (Below.mono (by with_reducible assumption) (by first | omega | (simp; omega) | simp))))), .slice none 0 0, [], rfl, OpsR.nil _ _, rfl⟩
    | true =>
      have hRv := hRv.out
      rw [if_pos rfl] at hRv
      subst hRv
      obtain ⟨r0, r1, r2, r3, r4, r5, r6, r7⟩ := blk8 hE8
      go_wp2_with fail
      refine bodyPost_ret (results_cell_tmp rfl _ _ rb _ rfl (run_loadVar_row _ rb 29 _ _ (0, 0) _ ((((((((hR8.set 0 _).set 1 _).set 2 _).set 3 _).set 4 _).set 5 _).set 6 _).set 7 _) Try.underlying29 rfl (by kernel_rfl))) rfl ?_
      have hch : Chg (fun k => k = rb) w8 (((((((w8.setCell ⟨rb, 0, none⟩ (.int .i64 x.fKind)).setCell ⟨rb, 1, none⟩ (.int .i64 x.fRec.fProducer)).setCell ⟨rb, 2, none⟩ (.int .i64 x.fRec.fSeq)).setCell ⟨rb, 3, none⟩ (.int .i64 x.fRec.fPart)).setCell ⟨rb, 4, none⟩ (.string x.fRec.fKey)).setCell ⟨rb, 5, none⟩ (.int .u32 x.fRec.fVal)).setCell ⟨rb, 6, none⟩ (.slice aov n cpv) |>.setCell ⟨rb, 7, none⟩ (.int .i64 x.fN)) := by
        repeat (refine Chg.setCell ?_ _ _ (fun _ => rfl))
        exact Chg.refl _ _
      exact ⟨hbel8.trans (hch.below hbel8.size (fun k hk e => by omega)), _, ps, rfl, hops8.out _ hch, hpm.out⟩
end Go.Proofs.Ytcigbobihkkdiaa
