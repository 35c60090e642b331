/- Progress: All: the counts in their order. -/
import Derived.Test.YtjmbafcpbagpdaaGreatPr
namespace Go.Proofs.YtjmbafcpbagpdaaGreat
open Go.RowKit Go.Shelf Go.Maps
attribute [local go_sem] Oper.semAt_some
set_option linter.unusedVariables false
set_option linter.unusedSimpArgs false

def mkK (c : TCount) : Value := .agg #[.int .i64 c.fS.fLoc, .int .i64 c.fS.fT.fEpoch, .int .i64 c.fS.fT.fRound, .int .i64 c.fN]
/-- All counts, in order. -/
structure IsAll (cs : List (TStamp × Int)) (L : List TCount) : Prop where
  perm : (L.map (·.fS)).Perm (cs.map Prod.fst)
  sort : (L.map (·.fS)).Pairwise ltS
  val : ∀ c ∈ L, c.fN = cntC cs c.fS
theorem sorted_unique : ∀ {a b : List TStamp}, a.Perm b → a.Pairwise ltS → b.Pairwise ltS → a = b
  | [], b, h, _, _ => (List.nil_perm.1 h).symm
  | x :: a, [], h, _, _ => absurd h.length_eq (by simp)
  | x :: a, y :: b, h, ha, hb => by
    rw [List.pairwise_cons] at ha hb
    have hxy : x = y := by
      by_cases e : x = y
      · exact e
      · have h1 : x ∈ y :: b := h.mem_iff.1 (by simp)
        have h2 : y ∈ x :: a := h.mem_iff.2 (by simp)
        rcases List.mem_cons.1 h1 with h1 | h1
        · exact h1
        · rcases List.mem_cons.1 h2 with h2 | h2
          · exact h2.symm
          · exact absurd (ltS_trans (hb.1 x h1) (ha.1 y h2)) (ltS_irrefl y)
    subst hxy
    rw [sorted_unique (List.perm_cons x |>.1 h) ha.2 hb.2]
theorem all_ext {cs : List (TStamp × Int)} : ∀ {L M : List TCount}, L.map (·.fS) = M.map (·.fS) → (∀ c ∈ L, c.fN = cntC cs c.fS) → (∀ c ∈ M, c.fN = cntC cs c.fS) → L = M
  | [], [], _, _, _ => rfl
  | [], m :: M, h, _, _ => by simp at h
  | l :: L, [], h, _, _ => by simp at h
  | l :: L, m :: M, h, h1, h2 => by
    simp only [List.map_cons, List.cons.injEq] at h
    rw [all_ext h.2 (fun c hc => h1 c (by simp [hc])) (fun c hc => h2 c (by simp [hc]))]
    have e1 := h1 l (by simp)
    have e2 := h2 m (by simp)
    cases l
    cases m
    simp_all
theorem IsAll.unique {cs : List (TStamp × Int)} {L M : List TCount} (h : IsAll cs L) (k : IsAll cs M) : L = M :=
  all_ext (sorted_unique (h.perm.trans k.perm.symm) h.sort k.sort) h.val k.val
theorem IsAll.len {cs : List (TStamp × Int)} {L : List TCount} (h : IsAll cs L) : L.length = cs.length := by
  have := h.perm.length_eq
  simpa using this
/-- A count that is told. -/
abbrev CountOf (cs : List (TStamp × Int)) : Type := { c : TCount // c.fS ∈ cs.map Prod.fst ∧ c.fN = cntC cs c.fS }
/-- What a round keeps: the closure's box, and of what is newer maps and pointstamps. -/
structure KeepIt (bq n0 : Nat) (W W' : World) : Prop where
  size : W.heap.size ≤ W'.heap.size
  same : ∀ (i : Nat) (o : Obj), W.heap[i]? = some o → (i = bq ∨ (n0 ≤ i ∧ (o.isWalk = true ∨ ∃ cs f, o = .cells cs 59 f))) → W'.heap[i]? = some o
theorem KeepIt.refl (bq n0 : Nat) (W : World) : KeepIt bq n0 W W := ⟨Nat.le_refl _, fun _ _ h _ => h⟩
theorem KeepIt.trans {bq n0 : Nat} {A B C : World} (h : KeepIt bq n0 A B) (k : KeepIt bq n0 B C) : KeepIt bq n0 A C := ⟨Nat.le_trans h.size k.size, fun i o h1 h2 => k.same i o (h.same i o h1 h2) h2⟩
theorem KeepIt.put {bq n0 l : Nat} {W : World} {o : Obj} (o' : Obj) (hb : bq < l) (ho : W.heap[l]? = some o) (h1 : o.isCells = false) (h2 : o.isWalk = false) : KeepIt bq n0 W (W.putObj l o') :=
  ⟨by simp [World.putObj], fun i u h3 h4 => by
    by_cases e : i = l
    · subst e
      rw [h3] at ho
      cases ho
      rcases h4 with h4 | ⟨_, h4 | ⟨cs, f, h4⟩⟩
      · omega
      · rw [h4] at h2; cases h2
      · rw [h4] at h1; cases h1
    · simpa [World.putObj, Ne.symm e] using h3⟩
theorem KeepIt.of_chg {bq n0 : Nat} {S : Nat → Prop} {W W' : World} (hc : Chg S W W') (hS : ∀ k, S k → k < W.heap.size → k ≠ bq ∧ (k < n0 ∨ ∃ cs T f, W.heap[k]? = some (.cells cs T f) ∧ T ≠ 59)) : KeepIt bq n0 W W' :=
  ⟨hc.size, fun i o h1 h2 => by
    have hl := (Array.getElem?_eq_some_iff.1 h1).1
    rw [hc.block i hl (fun h => by
      obtain ⟨h3, h4⟩ := hS i h hl
      rcases h2 with h2 | ⟨h5, h6⟩
      · exact h3 h2
      · rcases h4 with h4 | ⟨cs, T, f, h4, h7⟩
        · omega
        · rw [h1] at h4
          cases h4
          rcases h6 with h6 | ⟨cs', f', h6⟩
          · cases h6
          · cases h6
            exact h7 rfl)]
    exact h1⟩
theorem mapL_keepIt {bq n0 : Nat} {W W' : World} {b : Nat} {es : List (TStamp × Value)} (h : MapL Tryz.prog 59 klS wfS W b es) (hk : KeepIt bq n0 W W') (hb : n0 ≤ b) : MapL Tryz.prog 59 klS wfS W' b es :=
  h.same (fun o h1 h2 => hk.same b o h1 (.inr ⟨hb, .inl h2⟩))
theorem own_keepIt {bq n0 base : Nat} {W W' : World} {v : Value} {xs : List TStamp} (h : OwnL encS W base 59 3 v xs) (hk : KeepIt bq n0 W W') (hb : n0 ≤ base) : OwnL encS W' base 59 3 v xs :=
  h.same (fun b cs h1 h2 => hk.same b _ h2 (.inr ⟨by omega, .inr ⟨_, _, rfl⟩⟩))

theorem tall_any (tb : Nat) (w : World) : Calls Tryz.prog 21 #[.pointer (some ⟨tb, 0, none⟩)] w fun e w' => e = .returned (.func (.func 43) #[] #[.pointer (some ⟨w.heap.size, 0, none⟩)]) ∧ w' = w.alloc (.cells #[.pointer (some ⟨tb, 0, none⟩)] 61) := by
  go_enter Tryz.func21, Tryz.ntmps21
  go_wp2
  go_ret
  exact ⟨rfl, rfl⟩
theorem clone_any (mb : Nat) (es : List (TStamp × Value)) (w : World) (hM : MapL Tryz.prog 59 klS wfS w mb es) :
    Calls Tryz.prog 44 #[.map (some mb)] w fun e w' => e = .returned (.map (some w.heap.size)) ∧ MapL Tryz.prog 59 klS wfS w' w.heap.size es ∧ Below w.heap.size w w' := by
  obtain ⟨l, ho, hl⟩ := hM.own
  have h := AnyW.maps_Clone_owns layClone 59 rawE mb es.length (.map l) w ho
  change Calls Tryz.prog 44 _ _ _ at h
  refine h.mono ?_
  rintro e w' ⟨rfl, h1, _, h2⟩
  exact ⟨rfl, ⟨⟨l, h1, hl⟩, hM.nodup, hM.wf⟩, h2⟩

set_option maxRecDepth 100000 in
set_option maxHeartbeats 4000000 in
theorem tall_stops (n : Nat) (hn : 1 ≤ n) (bq tb : Nat) {base : Nat} {x : TrX} {ops : List TOp} {cs : List (TStamp × Int)} (w : World) (hbq : w.cell? ⟨bq, 0, none⟩ = some (.pointer (some ⟨tb, 0, none⟩))) (hT : Tr w base tb x ops cs) (hz : (cs.length + 1) * 24 ≤ 140737488355328) :
    SeqStopsK Fence.wide n Tryz.prog 43 #[.pointer (some ⟨bq, 0, none⟩)] (fun c : CountOf cs => #[mkK c.1]) (KeepIt bq w.heap.size) (fun ys => IsAll cs (ys.map (·.1))) (fun pre => ∃ L, IsAll cs L ∧ pre.map (·.1) <+: L) cs.length w := fun l J Jx W hW hJ hJx hY h0 => by
  have hbq' := (hW.cell (World.lt_of_cell hbq)).trans hbq
  have hT' := hT.below hW
  have hsz := hW.size
  obtain ⟨n0, hn0⟩ : ∃ n0, n0 = w.heap.size := ⟨_, rfl⟩
  have hM := hT'.map
  have c2 := hT'.blk.cellAt (i := 2) (v := .map (some x.mb)) rfl
  rw [← hn0] at hsz hY
  obtain ⟨n1, hn1⟩ : ∃ n1, n1 = W.heap.size := ⟨_, rfl⟩
  rw [← hn1] at hJ hJx
  have hel : (entC cs).length = cs.length := by simp [entC]
  have hclo := clone_any x.mb (entC cs) W hM
  rw [← hn1] at hclo hsz
  replace hJ := Lib.hid hJ
  replace hJx := Lib.hid hJx
  replace hY := Lib.hid hY
  replace h0 := Lib.hid h0
  replace hclo := Lib.hid hclo
  replace hn1 := Lib.hid hn1
  clear hbq hT hW hn0
  refine callsIn_of_wp Tryz.func43 rfl trivial ?_ rfl
  simp only [Tryz.ntmps43, List.size_toArray, List.length_cons, List.length_nil, Nat.reduceAdd, Nat.reduceSub, Array.replicate_succ, Array.replicate_zero, List.push_toArray, List.append_toArray, List.nil_append, List.cons_append]
  refine wpIn_wide.2 ?_
  go_wp2_with fail
  refine hclo.out.mono ?_
  rintro e w1 ⟨rfl, hM1, hb1⟩
  have hJ1 := hJ.out.below h0.out (hn1.out ▸ hb1)
  have hz1 : n1 < w1.heap.size := hM1.lt
  have hn01 : n0 ≤ n1 := hsz
  clear hclo h0 hM c2 hbq' hT' hb1 hsz
  dsimp only
  go_wp2_with fail
  refine (keysG_any n1 w1).mono ?_
  rintro e w2 ⟨rfl, hw2⟩
  have hb2 : Below w1.heap.size w1 w2 := by rw [hw2]; exact (Below.refl _ _).alloc (Nat.le_refl _) _
  have hB2 : Blk w2 w1.heap.size #[.map (some n1)] 103 := by rw [hw2]; exact Blk.new _ _ _
  have hJ2 := hJ.out.below hJ1 hb2
  have hM2 := hM1.below hb2 hz1
  have hso := sortedKeys_any w1.heap.size n1 (entC cs) w2 (hB2.cellAt rfl) hM2 (by rw [hel]; exact hz)
  have hz2 : n1 < w2.heap.size := Nat.lt_of_lt_of_le hz1 hb2.size
  replace hso := Lib.hid hso
  clear hw2 hb2 hB2 hJ1 hM1
  dsimp only
  go_wp2_with fail
  refine hso.out.mono ?_
  rintro e w3 ⟨v, ys, rfl, hown, hperm, hsort, hb3⟩
  have hJ3 := hJ.out.below hJ2 hb3
  have hM3 := hM2.below hb3 hM2.lt
  have hown3 := hown.base_le (base' := n1 + 1) hz2
  have hn3 : n1 < w3.heap.size := Nat.lt_of_lt_of_le hz2 hb3.size
  have hfst : (entC cs).map Prod.fst = cs.map Prod.fst := by unfold entC; rw [List.map_map]; rfl
  rw [hfst] at hperm
  have hmem : ∀ s ∈ ys, s ∈ cs.map Prod.fst := fun s hs => hperm.mem_iff.1 hs
  obtain ⟨L, hL⟩ : ∃ L : List (CountOf cs), L = ys.pmap (fun s h => (⟨⟨s, cntC cs s⟩, h, rfl⟩ : CountOf cs)) hmem := ⟨_, rfl⟩
  have hLl : L.length = ys.length := by rw [hL, List.length_pmap]
  have hLg : ∀ i (h1 : i < L.length) (h2 : i < ys.length), (L[i]).1 = ⟨ys[i], cntC cs ys[i]⟩ := fun i h1 h2 => by
    subst hL
    rw [List.getElem_pmap]
  have hLm : (L.map (·.1)).map (·.fS) = ys := by
    rw [hL, List.map_pmap, List.map_pmap]
    exact List.pmap_eq_self.2 (fun _ _ => rfl)
  have hA : IsAll cs (L.map (·.1)) := ⟨by rw [hLm]; exact hperm, by rw [hLm]; exact hsort, fun c hc => by
    obtain ⟨d, _, rfl⟩ := List.mem_map.1 hc
    exact d.2.2⟩
  obtain ⟨m, hm⟩ : ∃ m, m = ys.length := ⟨_, rfl⟩
  have hmc : m = cs.length := by rw [hm, hperm.length_eq, List.length_map]
  have hm63 : m ≤ 9223372036854775807 := by omega
  obtain ⟨av, cv, hv, _, _, _⟩ := hown3.slice
  rw [← hm] at hv hLl
  subst hv
  replace hA := Lib.hid hA
  replace hLg := Lib.hid hLg
  replace hm := Lib.hid hm
  replace hmc := Lib.hid hmc
  replace hLl := Lib.hid hLl
  replace hJ3 := Lib.hid hJ3
  clear hso hJ2 hM2 hown hperm hsort hb3 hfst hLm hL hz1 hz2 hel
  dsimp only
  go_wp2_with fail
  go_loopw [17] (fun x17 wr => ∃ i : Nat, i ≤ m ∧ x17 = .int .i64 i ∧ Hid (J (L.take i) wr) ∧ MapL Tryz.prog 59 klS wfS wr n1 (entC cs) ∧ OwnL encS wr (n1 + 1) 59 3 (.slice av m cv) ys ∧ n1 < wr.heap.size) (fun x17 _ => m - (intOf x17).toNat)
  case atStart => exact ⟨0, Nat.zero_le _, rfl, hJ3, hM3, hown3, hn3⟩
  case round =>
    clear hJ3 hM3 hown3 hn3
    obtain ⟨i, him, rfl, hJi, hMi, hOi, hzi⟩ := hrel
    by_cases hi : i < m
    · have hiy : i < ys.length := by rw [← hm.out]; exact hi
      have hiL : i < L.length := by rw [hLl.out]; exact hi
      obtain ⟨av2, cv2, hv, hsl⟩ := hOi.sla (E := fun _ cs x => cs = encS x) encS_len (fun _ _ => rfl)
      rw [← hm.out] at hv
      simp only [Value.slice.injEq] at hv
      obtain ⟨rfl, hx9, rfl⟩ := hv
      clear hx9
      obtain ⟨b2, off2, rfl, hb2l, _⟩ := hsl.addr (by omega)
      obtain ⟨s, hs⟩ : ∃ s, ys[i] = s := ⟨_, rfl⟩
      have hLi := hLg.out i hiL hiy
      rw [hs] at hLi
      have hwf : wfS s := by
        have h1 : s ∈ cs.map Prod.fst := by
          have := (L[i]).2.1
          rw [hLi] at this
          exact this
        obtain ⟨p, hp, rfl⟩ := List.mem_map.1 h1
        exact hMi.wf (encC p) (List.mem_map.2 ⟨p, hp, rfl⟩)
      obtain ⟨cs5, h5, h6, h7⟩ := hsl.get i hiy
      rw [hs] at h7
      subst h7
      have g0 : wr.cell? ⟨b2, off2 + i * 3, none⟩ = some (.int .i64 s.fLoc) := by have := h6 0 (by omega); simpa [encS] using this
      have g1 : wr.cell? ⟨b2, off2 + i * 3 + 1, none⟩ = some (.int .i64 s.fT.fEpoch) := by have := h6 1 (by omega); simpa [encS, Nat.add_assoc] using this
      have g2 : wr.cell? ⟨b2, off2 + i * 3 + 2, none⟩ = some (.int .i64 s.fT.fRound) := by have := h6 2 (by omega); simpa [encS, Nat.add_assoc] using this
      have htk : L.take (i + 1) = L.take i ++ [L[i]] := List.take_succ_eq_append_getElem hiL
      have hpl : (L.take i).length < cs.length := by rw [List.length_take, ← hmc.out]; omega
      replace htk := Lib.hid htk
      replace hLi := Lib.hid hLi
      clear hs h5 h6 hsl
      go_upto_region 5 with fail
      refine Code.wp_world ?_
      intro w4 hw4
      have hb4 : Below wr.heap.size wr w4 := by rw [hw4]; exact (Below.refl _ _).alloc (Nat.le_refl _) _
      have hB4 : Blk w4 wr.heap.size #[.int .i64 s.fLoc, .int .i64 s.fT.fEpoch, .int .i64 s.fT.fRound] 59 := by rw [hw4]; exact Blk.new _ _ _
      have hJ4 := hJ.out.below hJi.out hb4
      have hM4 := hMi.below hb4 hMi.lt
      have hO4 := hOi.below hb4 (Nat.le_refl _)
      have hz4 : n1 < w4.heap.size := Nat.lt_of_lt_of_le hzi hb4.size
      obtain ⟨z, hz⟩ : ∃ z, z = wr.heap.size := ⟨_, rfl⟩
      rw [← hz] at hB4 ⊢
      clear hw4 hb4 hJi hMi hOi hzi g0 g1 g2 hz
      have s0 := hB4.cellAt (i := 0) (v := .int .i64 s.fLoc) rfl
      have s1 := hB4.cellAt (i := 1) (v := .int .i64 s.fT.fEpoch) rfl
      have s2 := hB4.cellAt (i := 2) (v := .int .i64 s.fT.fRound) rfl
      refine (wpIn_wide (n := n)).1 ?_
      refine wpIn_region_treeO (fun wx => wx.cell? ⟨z, 0, none⟩ = some (.int .i64 s.fLoc) ∧ wx.cell? ⟨z, 1, none⟩ = some (.int .i64 s.fT.fEpoch) ∧ wx.cell? ⟨z, 2, none⟩ = some (.int .i64 s.fT.fRound)) 6 8 (by kernel_rfl) rfl (by kernel_rfl) (fun d _ _ _ _ h => by cases d <;> exact h) ⟨s0, s1, s2⟩ (fun opz T hOps hT hTok hHeld => ?_)
      have hMd : MapL Tryz.prog 59 klS wfS w4.drew n1 (entC cs) := hM4.chg ((Chg.refl (fun _ => False) w4).drew) (fun h => h)
      have hOd : OwnL encS w4.drew (n1 + 1) 59 3 (.slice (some ⟨b2, off2, none⟩) m cv) ys := hO4.chg ((Chg.refl (fun _ => False) w4).drew) (fun _ _ h => h)
      have hJd := hJ.out.below hJ4 ((Below.refl w4.heap.size w4).drew)
      have hzd : n1 < w4.drew.heap.size := hz4
      refine wpTree_world ?_
      intro w5 hw5
      rw [← hw5] at hMd hOd hJd hzd hHeld
      clear hw5 s0 s1 s2 hB4 hJ4 hM4 hO4 hz4
      (refine wpTree_q 0 hTok hOps (by kernel_rfl) rfl rfl ⟨?_, ?_, ?_⟩; rotate_left; (focus (intro wx hSx; (try dsimp only at hSx); go_simp; (try with_reducible rfl))); (simp only [Act.put, List.setIfInBounds_toArray, List.set_cons_zero, List.set_cons_succ]))
      (refine wpTree_q 1 hTok hOps (by kernel_rfl) rfl rfl ⟨?_, ?_, ?_⟩; rotate_left; (focus (intro wx hSx; (try dsimp only at hSx); go_simp; (try with_reducible rfl))); (simp only [Act.put, List.setIfInBounds_toArray, List.set_cons_zero, List.set_cons_succ]))
      (refine wpTree_q 2 hTok hOps (by kernel_rfl) rfl rfl ⟨?_, ?_, ?_⟩; rotate_left; (focus (intro wx hSx; (try dsimp only at hSx); go_simp; (try with_reducible rfl))); (simp only [Act.put, List.setIfInBounds_toArray, List.set_cons_zero, List.set_cons_succ]))
      (refine wpTree_q 3 hTok hOps (by kernel_rfl) rfl rfl ⟨?_, ?_, ?_⟩; rotate_left; (focus (intro wx hSx; (try dsimp only at hSx); go_simp; (try with_reducible rfl))); (simp only [Act.put, List.setIfInBounds_toArray, List.set_cons_zero, List.set_cons_succ]))
      refine wpTree_1 4 hOps (by kernel_rfl) (by decide) rfl (fun K' hK => ?_)
      refine step_lookupL rfl _ _ _ false rfl keyS hMd Tryz.underlying103 (zeroInt _) hwf rfl rfl ?_
      simp only [Bool.false_eq_true, if_false, cnt_ent]
      refine hK.out _ _ hHeld ?_
      clear hK K'
      try simp only [Act.put, List.setIfInBounds_toArray, List.set_cons_zero, List.set_cons_succ]
      (refine wpTree_q 5 hTok hOps (by kernel_rfl) rfl rfl ⟨?_, ?_, ?_⟩; rotate_left; (focus (intro wx hSx; (try dsimp only at hSx); go_simp; (try with_reducible rfl))); (simp only [Act.put, List.setIfInBounds_toArray, List.set_cons_zero, List.set_cons_succ]))
      refine wpTree_nil hOps (by kernel_rfl) ?_
      refine hT.out _ _ ?_
      simp only [List.drop_succ_cons, List.drop_zero]
      obtain ⟨fn, tmps, assign, body, hy, hR⟩ := hY.out (L.take i) L[i] w5 hJd hpl
      rw [hLi.out] at hy
      dsimp only [mkK] at hy
      clear hT hOps hTok hHeld hJd
      gi_wp2
      refine hR.mono ?_
      rintro e W' (⟨rfl, hJ', hk⟩ | ⟨rfl, hJx'⟩)
      · have hM6 := mapL_keepIt hMd hk hn01
        have hO6 := own_keepIt hOd hk (by omega)
        have hz6 : n1 < W'.heap.size := Nat.lt_of_lt_of_le hzd hk.size
        rw [← htk.out] at hJ'
        replace hJ' := Lib.hid hJ'
        clear hR hy hMd hOd hzd hk
        gi_wp2
        refine ⟨by simp, ?_⟩
        go_wp2_with fail
        go_roundw
        case rel => exact ⟨i + 1, by omega, by go_num, hJ', hM6, hO6, hz6⟩
        case measure => simp [intOf]; omega
      · have hsp : ∃ L', IsAll cs L' ∧ (L.take i ++ [L[i]]).map (·.1) <+: L' := ⟨L.map (·.1), hA.out, by rw [← htk.out, List.map_take]; exact List.take_prefix _ _⟩
        replace hsp := Lib.hid hsp
        replace hJx' := Lib.hid hJx'
        gi_wp2
        refine ⟨by simp, ?_⟩
        go_wp2_with fail
        refine bodyPost_ret (results_none rfl _ _ _) rfl ?_
        exact ⟨⟨_, rfl⟩, .inr ⟨_, hsp.out, hJx'.out⟩⟩
    · obtain rfl : m = i := by omega
      have hJe := hJi.out
      rw [List.take_of_length_le (Nat.le_of_eq hLl.out)] at hJe
      replace hJe := Lib.hid hJe
      clear hJi
      go_wp2_with fail
      go_end0
      exact ⟨⟨_, rfl⟩, .inl ⟨L, hA.out, hJe.out⟩⟩
end Go.Proofs.YtjmbafcpbagpdaaGreat
