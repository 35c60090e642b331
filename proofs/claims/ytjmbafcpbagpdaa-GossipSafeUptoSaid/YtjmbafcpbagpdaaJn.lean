/- Gossip: step of the statements: what a move does to a pointstamp that is alive in truth. -/
import Derived.Test.YtjmbafcpbagpdaaJ17
import Derived.Test.YtjmbafcpbagpdaaPo
namespace Go.Proofs.Ytjmbafcpbagpdaa
open Go.RowKit Go.Shelf Go.Maps
attribute [local go_sem] Oper.semAt_some
set_option linter.unusedVariables false
set_option linter.unusedSimpArgs false

theorem KeepA.of_chg {ab bq n0 : Nat} {S : Nat → Prop} {W W' : World} (hc : Chg S W W') (hS : ∀ k, S k → k < W.heap.size → k ≠ bq ∧ (k < n0 ∨ (OwnA W ab k ∧ ∃ cs T f, W.heap[k]? = some (.cells cs T f)) ∨ ∃ cs T f, W.heap[k]? = some (.cells cs T f) ∧ T ≠ 47)) (hex : ∀ i, OwnA W' ab i → OwnA W ab i ∨ W.heap.size ≤ i) : KeepA ab bq n0 W W' :=
  ⟨hc.size, fun i o h1 h2 => by
    have hl := (Array.getElem?_eq_some_iff.1 h1).1
    rw [hc.block i hl (fun h => by
      obtain ⟨h3, h4⟩ := hS i h hl
      rcases h2 with h2 | ⟨h5, h6⟩
      · exact h3 h2
      · rcases h4 with h4 | h4 | ⟨cs, T, f, h4, h7⟩
        · omega
        · rcases h6 with h6 | ⟨_, h8⟩
          · obtain ⟨_, cs, T, f, h9⟩ := h4
            rw [h1] at h9
            cases h9
            cases h6
          · exact h8 h4.1
        · rw [h1] at h4
          cases h4
          rcases h6 with h6 | ⟨⟨cs', f', h6⟩, _⟩
          · cases h6
          · cases h6
            exact h7 rfl)]
    exact h1, hex⟩
/-- The counts told so far (hidden from simp). -/
def valsJ {cs : List (TStamp × Int)} (l : List (CountOf cs)) : List TCount := l.map (·.1)
/-- What the rounds of step keep. -/
structure StI (w0 W : World) (z0 zA n0 n : Nat) (ao : Option Addr) (cap : Nat) (q1 q2 q3 q4 q5 : Int) (v : Value) (A : List TStamp) : Prop where
  eg : Blk W z0 #[.slice ao n cap] 24
  mg : Blk W (z0 + 1) #[.int .i64 q1, .int .i64 q2, .int .i64 q3, .int .i64 q4, .int .i64 q5] 36
  ag : Blk W zA #[v] 34
  own : OwnL encS W n0 47 3 v A
  bel : Below z0 w0 W
  sz : n0 ≤ W.heap.size
theorem StI.below {w0 W W' : World} {z0 zA n0 n : Nat} {ao : Option Addr} {cap : Nat} {q1 q2 q3 q4 q5 : Int} {v : Value} {A : List TStamp} (h : StI w0 W z0 zA n0 n ao cap q1 q2 q3 q4 q5 v A) (hz : z0 ≤ W.heap.size) (hb : Below W.heap.size W W') : StI w0 W' z0 zA n0 n ao cap q1 q2 q3 q4 q5 v A :=
  ⟨h.eg.below hb h.eg.lt, h.mg.below hb h.mg.lt, h.ag.below hb h.ag.lt, h.own.chg (Chg.of_below hb) (fun g e1 e2 => by have := (h.own.lt g e1).2; omega), h.bel.trans (hb.mono hz), Nat.le_trans h.sz hb.size⟩
/-- A non-negative remainder, whatever the length. -/
theorem mod_okJ (q : Int) (n : Nat) (hn : 0 < n) (hn2 : n ≤ 1000000000) : ∃ k : Nat, k < n ∧ IntKind.i64.wrap ((IntKind.u64.wrap q).tmod (n : Int)) = (k : Int) := by
  have h0 : 0 ≤ IntKind.u64.wrap q ∧ IntKind.u64.wrap q < 18446744073709551616 := ⟨Int.emod_nonneg _ (by decide), Int.emod_lt_of_pos _ (by decide)⟩
  have h1 : (IntKind.u64.wrap q).tmod (n : Int) = (IntKind.u64.wrap q) % (n : Int) := Int.tmod_eq_emod_of_nonneg h0.1
  have h2 := Int.emod_nonneg (IntKind.u64.wrap q) (show (n : Int) ≠ 0 by omega)
  have h3 := Int.emod_lt_of_pos (IntKind.u64.wrap q) (show (0 : Int) < n by omega)
  refine ⟨((IntKind.u64.wrap q) % (n : Int)).toNat, by omega, ?_⟩
  rw [h1, IntWalk.i64_in _ (by omega), Int.toNat_of_nonneg h2]

/-- The pointstamps with a count above none. -/
def posL (L : List TCount) : List TStamp := (L.filter fun c => decide (0 < c.fN)).map (·.fS)
theorem posL_snoc (L : List TCount) (c : TCount) : posL (L ++ [c]) = posL L ++ (if 0 < c.fN then [c.fS] else []) := by
  unfold posL
  rw [List.filter_append, List.map_append]
  by_cases h : 0 < c.fN <;> simp [List.filter, h]
theorem posL_len (L : List TCount) : (posL L).length ≤ L.length := by
  unfold posL
  rw [List.length_map]
  exact List.length_filter_le _ _

set_option maxRecDepth 100000 in
set_option maxHeartbeats 4000000 in
theorem step_any {A U gb N M : Nat} {X : Nat → Prop} {p : GP} {ops : List TOp} {m : GM} (q1 q2 q3 q4 q5 : Int) (ao : Option Addr) (cap B : Nat) (w : World) (hG : Gos w A U X gb p ops m N M) (hpg : p.gops = ops) (hzi : ∀ o ∈ ops, o.fIn.length * 8 ≤ 140737488355328) (hN : N ≤ 1000000000) (hB : B ≤ w.heap.size) (hx : SlA B 7 (ROp B) w ao cap ops) (hno : ops.length ≤ 1000) (hnx : ∀ s : TStamp, (nextS ops s.fLoc s.fT.fEpoch s.fT.fRound).length ≤ 16777300) :
    Calls Try.prog 9 #[.pointer (some ⟨gb, 0, none⟩), .agg #[.slice ao ops.length cap], .agg #[.int .i64 q1, .int .i64 q2, .int .i64 q3, .int .i64 q4, .int .i64 q5]] w fun e w' => Below w.heap.size w w' ∧ ∃ v l, e = .returned v ∧ OwnL encK w' w.heap.size 57 4 v l ∧ (l = [] ∨ ∃ s t, l = movC s t ∧ 0 < m.c 0 s ∧ wfS s ∧ (∀ a ∈ t, a ∈ nextS ops s.fLoc s.fT.fEpoch s.fT.fRound) ∧ t.length ≤ 16777300) := by
  obtain ⟨jK, hiK, hK0, hK1, hK2⟩ := info_parts infoK
  obtain ⟨jS, hiS, hS0, hS1, hS2⟩ := info_parts infoS
  have hok := hG.ok
  have hTr : ∀ w', Below w.heap.size w w' → _ := fun w' hb => true_any w' (hG.below hb) hpg hzi hN
  obtain ⟨n, hn⟩ : ∃ n, n = ops.length := ⟨_, rfl⟩
  rw [← hn]
  replace hTr := Lib.hid hTr
  replace hok := Lib.hid hok
  replace hn := Lib.hid hn
  clear hG hpg hzi
  refine calls_of_marks Try.func9 rfl ?_
  simp only [Try.ntmps9, List.size_toArray, List.length_cons, List.length_nil, Nat.reduceAdd, Nat.reduceSub, Array.replicate_succ, Array.replicate_zero, List.push_toArray, List.append_toArray, List.nil_append, List.cons_append]
  go_upto_region 2 with fail
  refine Code.wp_world ?_
  intro w1 hw1
  have hb1 : Below w.heap.size w w1 := by rw [hw1]; exact (((Below.refl _ _).alloc (Nat.le_refl _) _).alloc (by simp) _).alloc (by simp; omega) _
  have hE1 : Blk w1 w.heap.size #[.slice ao n cap] 24 := by rw [hw1]; exact ((Blk.new w _ _).alloc _).alloc _
  have hM1 : Blk w1 (w.heap.size + 1) #[.int .i64 q1, .int .i64 q2, .int .i64 q3, .int .i64 q4, .int .i64 q5] 36 := by rw [hw1]; have := (Blk.new (w.alloc (.cells #[.slice ao n cap] 24)) #[.int .i64 q1, .int .i64 q2, .int .i64 q3, .int .i64 q4, .int .i64 q5] 36).alloc (.cells #[.slice none 0 0] 34); simpa using this
  have hA1 : Blk w1 (w.heap.size + 2) #[.slice none 0 0] 34 := by rw [hw1]; have := Blk.new ((w.alloc (.cells #[.slice ao n cap] 24)).alloc (.cells #[.int .i64 q1, .int .i64 q2, .int .i64 q3, .int .i64 q4, .int .i64 q5] 36)) #[.slice none 0 0] 34; simpa using this
  have hz1 : w.heap.size + 3 = w1.heap.size := by rw [hw1]; simp
  clear hw1
  go_wp2_with fail
  refine (hTr.out w1 hb1).mono ?_
  rintro e w2 ⟨hb12, tb, x, cs, rfl, hT2, hcs, hcl⟩
  have hE2 := hE1.below hb12 hE1.lt
  have hM2 := hM1.below hb12 hM1.lt
  have hA2 := hA1.below hb12 hA1.lt
  have hb2 := hb1.trans (hb12.mono hb1.size)
  obtain ⟨z0, hz0⟩ : ∃ z0, z0 = w.heap.size := ⟨_, rfl⟩
  have hb12s := hb12.size
  rw [← hz0] at hb1 hb2 hE2 hM2 hA2 hz1 ⊢
  replace hz0 := Lib.hid hz0
  obtain ⟨zA, hzA⟩ : ∃ zA, zA = z0 + 1 + 1 := ⟨_, rfl⟩
  rw [← hzA]
  have hA2 : Blk w2 zA #[.slice none 0 0] 34 := by rw [hzA]; exact hA2
  have hzb : zA ≤ z0 + 2 ∧ z0 + 2 ≤ zA := by omega
  replace hzA := Lib.hid hzA
  clear hTr hE1 hM1 hA1 hb1 hb12
  dsimp only
  go_wp2_with fail
  refine (tall_any tb w2).mono ?_
  rintro e w7 ⟨rfl, hw7⟩
  have hb7 : Below w2.heap.size w2 w7 := by rw [hw7]; exact (Below.refl _ _).alloc (Nat.le_refl _) _
  have hB7 : Blk w7 w2.heap.size #[.pointer (some ⟨tb, 0, none⟩)] 41 := by rw [hw7]; exact Blk.new _ _ _
  have hE7 := hE2.below hb7 hE2.lt
  have hM7 := hM2.below hb7 hM2.lt
  have hA7 := hA2.below hb7 hA2.lt
  have hT7 := hT2.below hb7
  have hb07 := hb2.trans (hb7.mono (by have := hb2.size; omega))
  obtain ⟨bq, hbq⟩ : ∃ bq, bq = w2.heap.size := ⟨_, rfl⟩
  rw [← hbq] at hB7 hb12s ⊢
  have hst := tall_stopsA (8 - 1) (zA) (by omega) bq tb w7 (hB7.cellAt rfl) hT7 (by omega) hA7.lt (fun i ⟨v, h1, h2⟩ => by rw [hA7.cellAt (i := 0) (v := .slice none 0 0) rfl] at h1; cases h1; cases h2)
  have hbql : bq < w7.heap.size := hB7.lt
  replace hbq := Lib.hid hbq
  replace hcs := Lib.hid hcs
  clear hw7 hE2 hM2 hA2 hT2 hb7 hb2
  dsimp only
  go_wp2_with fail
  refine (wpIn_wide (n := 8)).1 ?_
  obtain ⟨n0, hn0⟩ : ∃ n0, n0 = w7.heap.size := ⟨_, rfl⟩
  have hn07 : n0 ≤ w7.heap.size ∧ w7.heap.size ≤ n0 := by omega
  have hz07 : z0 + 3 ≤ bq ∧ bq < n0 := by omega
  have hcll : cs.length ≤ 1000000000 := by omega
  replace hn0 := Lib.hid hn0
  refine wpIn_range_boxed (α := CountOf cs) rfl (by omega) (gf := 36) (lb := #[.pointer (some ⟨bq, 0, none⟩)]) rfl trivial (enters_of Try.func36 (by kernel_rfl) rfl)
    hst KeepA.trans (fun W l o o' h1 h2 h3 h4 => KeepA.put o' (by omega) (by omega) h2 h3 h4) (Below.refl _ _) (fun _ => rfl)
    (fun pre W => ∃ v, StI w W z0 zA n0 n ao cap q1 q2 q3 q4 q5 v (posL (valsJ pre))) (fun _ _ _ => False) ?hI (fun _ _ _ _ _ h _ _ => h.elim) ⟨_, hE7, hM7, hA7, OwnL.nil _ _ _ _ _, hb07, by omega⟩
    (fun c Bx W => n0 ≤ Bx ∧ Blk W Bx (encK c.1).toArray 57) ?hPB
    (fun c Bx => { tmps := #[.pointer (some ⟨gb, 0, none⟩), .agg #[.slice ao n cap], .agg #[.int .i64 q1, .int .i64 q2, .int .i64 q3, .int .i64 q4, .int .i64 q5], undef, .pointer (some ⟨z0, 0, none⟩), .pointer (some ⟨z0 + 1, 0, none⟩), .slice none 0 0, .pointer (some ⟨zA, 0, none⟩), .pointer (some ⟨Bx, 0, none⟩), undef, undef, undef, undef, .pointer (some ⟨gb, 0, none⟩), .pointer (some ⟨tb, 0, none⟩), .func (.func 36) #[] #[.pointer (some ⟨bq, 0, none⟩)], mkK c.1, undef, undef, undef, undef, undef, undef, undef, undef, undef, undef, undef, undef, undef, undef, undef, undef, undef, undef, undef, undef, undef, undef, undef, undef, undef, undef, undef, undef, undef, undef, undef, undef, undef, undef, undef, undef, undef, undef, undef, undef, undef, undef, undef, undef, undef, undef, undef, undef, undef, undef, undef, undef, undef, undef, undef, undef], defers := [] })
    ?assign ?body ?done ?stop
  case hI =>
    rintro s Xw Y row ⟨v, h1, h2, h3, h4, h5, h6⟩ hg hr
    have hr' : ∀ r, row = some r → ∃ o : Obj, Xw.heap[r]? = some o ∧ o.isCells = false := fun r e => (hr r e).2
    exact ⟨v, h1.grownN hg hr', h2.grownN hg hr', h3.grownN hg hr', h4.grownN hg hr', h5.grown hg (by omega) (fun g e => by have := (hr g e).1; omega), Nat.le_trans h6 hg.size⟩
  case hPB =>
    rintro c Bx s Xw Y row ⟨h1, h2⟩ hg hr
    exact ⟨h1, h2.grownN hg (fun r e => (hr r e).2)⟩
  case assign =>
    rintro l pre c W K ⟨v, h⟩ hK
    obtain ⟨d, hd⟩ : ∃ d, d = c.1 := ⟨_, rfl⟩
    rw [← hd] at hK ⊢
    obtain ⟨⟨cl, ⟨ce, cr⟩⟩, cn⟩ := d
    dsimp only [mkK] at hK ⊢
    gi_wp2
    have hch : Chg (fun _ => False) W (W.alloc (.cells #[.int .i64 cl, .int .i64 ce, .int .i64 cr, .int .i64 cn] 57)) := (Chg.refl _ _).alloc _
    have hal := h.ag.lt
    refine hK _ _ (keepsFrom_of_chg hch (fun _ h _ => h.elim)) (KeepA.of_chg hch (fun _ h _ => h.elim) (fun i h' => .inl (h'.below (below_allocJ W _) hal))) ⟨v, h.eg.alloc _, h.mg.alloc _, h.ag.alloc _, h.own.alloc _, h.bel.alloc (by have := h.sz; omega) _, Nat.le_trans h.sz hch.size⟩ ⟨h.sz, Blk.new _ _ _⟩
  case body =>
    rintro l pre c Bx W hl ⟨r, hr⟩ ⟨v, h⟩ ⟨hBx, hX⟩ hlt
    obtain ⟨d, hd⟩ : ∃ d, d = c.1 := ⟨_, rfl⟩
    rw [← hd] at hX ⊢
    have hpl : (posL (valsJ pre)).length < 1000000000 := by
      have := posL_len (valsJ pre)
      unfold valsJ at this ⊢
      rw [List.length_map] at this
      omega
    have hps : posL (valsJ (pre ++ [c])) = posL (valsJ pre) ++ (if 0 < d.fN then [d.fS] else []) := by unfold valsJ; rw [List.map_append, List.map_singleton, posL_snoc, ← hd]
    obtain ⟨P0, hP0⟩ : ∃ P0, P0 = posL (valsJ pre) := ⟨_, rfl⟩
    rw [← hP0] at h hpl hps
    have hX0 : Blk W Bx #[.int .i64 d.fS.fLoc, .int .i64 d.fS.fT.fEpoch, .int .i64 d.fS.fT.fRound, .int .i64 d.fN] 57 := hX
    have x0 := hX0.cellAt (i := 0) (v := .int .i64 d.fS.fLoc) rfl
    have x1 := hX0.cellAt (i := 1) (v := .int .i64 d.fS.fT.fEpoch) rfl
    have x2 := hX0.cellAt (i := 2) (v := .int .i64 d.fS.fT.fRound) rfl
    have x3 := hX0.cellAt (i := 3) (v := .int .i64 d.fN) rfl
    have cv := h.ag.cellAt (i := 0) (v := v) rfl
    have cf := h.ag.frozen 0
    have hse : (#[.int .i64 d.fS.fLoc, .int .i64 d.fS.fT.fEpoch, .int .i64 d.fS.fT.fRound] : Array Value) = (encS d.fS).toArray := rfl
    replace hse := Lib.hid hse
    have hbl := hX0.lt
    replace hd := Lib.hid hd
    replace hP0 := Lib.hid hP0
    dsimp only [mkK]
    by_cases hpos : 0 < d.fN
    · have dp : decide ((0 : Int) < d.fN) = true := by simpa using hpos
      rw [if_pos hpos] at hps
      replace hps := Lib.hid hps
      gi_wp2_with (gi_at_builtin; refine wpListIn_of_wpListB _ (fun h => by obtain ⟨a, w, h⟩ := h; exact h) rfl ?hap)
      case hap =>
      rw [hse.out]
      refine wpList_app1g rfl _ _ 34 rfl Try.underlying34 hiS hS0 hS1 hS2 rfl (by decide) (enc := encS) d.fS rfl h.own rfl (encS_len _) (encS_one _) (by omega) (by unfold maxLen; omega) h.sz (fun g cap7 w8 hown8 hgr8 => ?_)
      have hc8 : Chg (fun k => v.ownBlock = some k) W w8 := Chg.of_grown hgr8.grown
      have hown := h.own
      have hlow : ∀ k, v.ownBlock = some k → n0 ≤ k := fun k e => (hown.lt k e).1
      have hE8 := h.eg.chg hc8 (fun e => by have := hlow _ e; omega)
      have hM8 := h.mg.chg hc8 (fun e => by have := hlow _ e; omega)
      have hA8 := h.ag.chg hc8 (fun e => by have := hlow _ e; omega)
      have cf8 : w8.frozen? ⟨zA, 0, none⟩ = false := hA8.frozen 0
      have cv8 : w8.cell? ⟨zA, 0, none⟩ = some v := hA8.cellAt (i := 0) (v := v) rfl
      obtain ⟨nP, hnP⟩ : ∃ nP, nP = P0.length := ⟨_, rfl⟩
      rw [← hnP] at hown8 ⊢
      obtain ⟨vN, hvN⟩ : ∃ vN, vN = Value.slice (some ⟨g, 0, none⟩) (nP + 1) cap7 := ⟨_, rfl⟩
      rw [← hvN] at hown8
      have hpl8 : vN.ownBlock = v.ownBlock ∨ ∃ g, vN.ownBlock = some g ∧ W.heap.size ≤ g := by rw [hvN, hnP]; exact hgr8.place
      have hcc : Chg (fun k => v.ownBlock = some k ∨ k = zA) W (w8.setCell ⟨zA, 0, none⟩ vN) := (hc8.mono (fun k _ h => .inl h)).setCell _ _ (fun _ => .inr rfl)
      have hcell : ∀ j, (v.ownBlock = some j ∨ j = zA) → j < W.heap.size → ∃ cs T f, W.heap[j]? = some (.cells cs T f) := fun j hj _ => by
        rcases hj with e1 | rfl
        · rcases hown.form with ⟨h5, _⟩ | ⟨g', cap2, cells, h5, h6, _⟩
          · rw [h5] at e1; cases e1
          · rw [h5] at e1
            obtain rfl : g' = j := by simpa [Value.ownBlock] using e1
            exact ⟨_, _, _, h6⟩
        · exact ⟨_, _, _, h.ag⟩
      have hset := hA8.set 0 vN
      have hsc : Chg (fun k => k = zA) w8 (w8.setCell ⟨zA, 0, none⟩ vN) := (Chg.refl (fun k => k = zA) w8).setCell ⟨zA, 0, none⟩ vN (fun _ => rfl)
      have hown9 := hown8.chg hsc (fun g' e1 e2 => by have := (hown8.lt _ e1).1; omega)
      have hb9 : Below z0 w (w8.setCell ⟨zA, 0, none⟩ vN) := h.bel.trans (hcc.below (by have := h.sz; omega) (fun k hk e => by
        rcases e with e | e
        · have := hlow _ e
          omega
        · omega))
      have hfin : KeepsFrom w7.heap.size W (w8.setCell ⟨zA, 0, none⟩ vN) ∧ KeepA zA bq w7.heap.size W (w8.setCell ⟨zA, 0, none⟩ vN) ∧ ∃ v, StI w (w8.setCell ⟨zA, 0, none⟩ vN) z0 zA n0 n ao cap q1 q2 q3 q4 q5 v (posL (valsJ (pre ++ [c]))) := by
        rw [← hn0.out]
        refine ⟨keepsFrom_of_chg hcc hcell, KeepA.of_chg hcc (fun k hk hkl => ?_) (fun i hi => ?_), vN, hE8.chg hsc (by omega), hM8.chg hsc (by omega), hset, by rw [hps.out]; exact hown9, hb9, Nat.le_trans h.sz hcc.size⟩
        · rcases hk with e | rfl
          · exact ⟨by have := hlow _ e; omega, .inr (.inl ⟨⟨v, cv, e⟩, hcell _ (.inl e) hkl⟩)⟩
          · exact ⟨by omega, .inl (by omega)⟩
        · obtain ⟨u, e1, e2⟩ := hi
          rw [hset.cellAt (i := 0) (v := vN) rfl] at e1
          cases e1
          rcases hpl8 with e | ⟨g2, e, hg2⟩
          · rw [e] at e2
            exact .inl ⟨v, cv, e2⟩
          · rw [e] at e2
            cases e2
            exact .inr hg2
      rw [hvN] at hfin
      replace hvN := Lib.hid hvN
      replace hnP := Lib.hid hnP
      replace hfin := Lib.hid hfin
      clear cv cf x0 x1 x2 x3 hown8 hown9 hsc hcc hset hgr8 hc8 hE8 hM8 hA8
      go_wp2_with fail
      exact hfin.out
    · have dp : decide ((0 : Int) < d.fN) = false := by simpa using hpos
      rw [if_neg hpos, List.append_nil] at hps
      have hfin : KeepsFrom w7.heap.size W W ∧ KeepA zA bq w7.heap.size W W ∧ ∃ v, StI w W z0 zA n0 n ao cap q1 q2 q3 q4 q5 v (posL (valsJ (pre ++ [c]))) := ⟨⟨Nat.le_refl _, fun _ _ _ h _ => h⟩, KeepA.refl _ _ _ _, v, by rw [hps]; exact h⟩
      replace hfin := Lib.hid hfin
      gi_wp2
      exact hfin.out
  case stop =>
    rintro D c pre W _ _ h _
    exact h.elim
  case done =>
    rintro D ys W hD hys ⟨v, h⟩ hK
    have hMk := marks_one (B := z0) (w := W) (D := D) (by omega) hK
    obtain ⟨A, hA⟩ : ∃ A, A = posL (valsJ ys) := ⟨_, rfl⟩
    have hAl : A.length ≤ 1000000000 := by
      have h1 := posL_len (valsJ ys)
      unfold valsJ at h1 hA
      have h2 := hys.len
      rw [← hA] at h1
      omega
    have hAp : ∀ s ∈ A, 0 < m.c 0 s ∧ wfS s := fun s hs => by
      rw [hA] at hs
      obtain ⟨c, hc, rfl⟩ := List.mem_map.1 hs
      obtain ⟨hc1, hc2⟩ := List.mem_filter.1 hc
      have hc3 : 0 < c.fN := by simpa using hc2
      have hv := hys.val c hc1
      rw [hcs.out] at hv
      have hin : c.fS ∈ cs.map Prod.fst := hys.perm.mem_iff.1 (List.mem_map.2 ⟨c, hc1, rfl⟩)
      obtain ⟨q, hq, hqe⟩ := List.mem_map.1 hin
      refine ⟨?_, by have := hT7.map.wf (encC q) (List.mem_map.2 ⟨q, hq, rfl⟩); rw [← hqe]; exact this⟩
      unfold posF at hv
      split at hv
      · assumption
      · omega
    rw [← hA] at h
    obtain ⟨nA, hnA⟩ : ∃ nA, nA = A.length := ⟨_, rfl⟩
    rw [← hnA] at hAl
    obtain ⟨av, cvv, hvv, hsA⟩ := h.own.sla (E := RStamp W.heap.size) encS_len (fun x hx => ⟨rfl, (hAp x hx).2⟩)
    rw [← hnA] at hvv
    subst hvv
    have c0 := h.ag.cellAt (i := 0) (v := .slice av nA cvv) rfl
    replace hA := Lib.hid hA
    replace hnA := Lib.hid hnA
    replace hAp := Lib.hid hAp
    clear hst hys hT7 hE7 hM7 hA7 hB7
    dsimp only
    by_cases hA0 : nA = 0
    · have d0 : decide ((nA : Int) = 0) = true := by simp; omega
      go_wp2_with fail
      have hbel := h.bel
      rw [hz0.out] at hMk hbel
      refine leavesM_marks _ _ hMk hbel.size (fun w' hs => ?_)
      exact ⟨.slice none 0 0, by first | exact results_tmp rfl _ _ _ | simp [results, Try.results9, go_sem], hbel.trans hs.below, _, [], rfl, OwnL.nil _ _ _ _ _, .inl rfl⟩
    · have d0 : decide ((nA : Int) = 0) = false := by simp; omega
      have d0' : ((nA : Int) == 0) = false := by simp; omega
      obtain ⟨k, hk, hwk⟩ := mod_okJ q4 nA (by omega) (by omega)
      have hun : IntKind.u64.wrap (nA : Int) = nA := by show (nA : Int) % 18446744073709551616 = nA; omega
      have hkA : k < A.length := by rw [← hnA.out]; exact hk
      obtain ⟨b3, off3, rfl, hb3l, _⟩ := hsA.addr (by omega)
      obtain ⟨s, hs⟩ : ∃ s, A[k] = s := ⟨_, rfl⟩
      obtain ⟨g0, g1, g2, hws⟩ := RStamp.at hsA hkA hs
      have m3 := h.mg.cellAt (i := 3) (v := .int .i64 q4) rfl
      have hAps := hAp.out s (by rw [← hs]; exact List.getElem_mem hkA)
      replace hAps := Lib.hid hAps
      replace hs := Lib.hid hs
      go_upto_region 8 with fail
      replace hb3l := Lib.hid hb3l
      clear hcll
      refine wp_region_tree (fun wx => wx.cell? ⟨zA, 0, none⟩ = some (.slice (some ⟨b3, off3, none⟩) nA cvv) ∧ wx.cell? ⟨z0 + 1, 3, none⟩ = some (.int .i64 q4) ∧ wx.cell? ⟨b3, off3 + k * 3, none⟩ = some (.int .i64 s.fLoc) ∧ wx.cell? ⟨b3, off3 + k * 3 + 1, none⟩ = some (.int .i64 s.fT.fEpoch) ∧ wx.cell? ⟨b3, off3 + k * 3 + 2, none⟩ = some (.int .i64 s.fT.fRound)) 12 13 (by kernel_rfl) rfl (by kernel_rfl) (fun d _ _ _ _ h => by cases d <;> exact h) (⟨c0, m3, g0, g1, g2⟩) (fun opz T hOps hT hTok hHeld => ?_)
      refine wpTree_world ?_
      intro wz hwz
      have bz : Below W.heap.size W wz := by rw [hwz]; exact (Below.refl _ _).drew
      have hzs : wz.heap.size = W.heap.size := by rw [hwz]; rfl
      clear hwz
      (refine wpTree_q 0 hTok hOps (by kernel_rfl) rfl rfl ⟨?_, ?_, ?_⟩; rotate_left; (focus (intro wx hSx; (try dsimp only at hSx); go_simp; (try with_reducible rfl))); (simp only [Act.put, List.setIfInBounds_toArray, List.set_cons_zero, List.set_cons_succ]))
      (refine wpTree_q 1 hTok hOps (by kernel_rfl) rfl rfl ⟨?_, ?_, ?_⟩; rotate_left; (focus (intro wx hSx; (try dsimp only at hSx); go_simp; (try with_reducible rfl))); (simp only [Act.put, List.setIfInBounds_toArray, List.set_cons_zero, List.set_cons_succ]))
      (refine wpTree_q 2 hTok hOps (by kernel_rfl) rfl rfl ⟨?_, ?_, ?_⟩; rotate_left; (focus (intro wx hSx; (try dsimp only at hSx); go_simp; (try with_reducible rfl))); (simp only [Act.put, List.setIfInBounds_toArray, List.set_cons_zero, List.set_cons_succ]))
      (refine wpTree_q 3 hTok hOps (by kernel_rfl) rfl rfl ⟨?_, ?_, ?_⟩; rotate_left; (focus (intro wx hSx; (try dsimp only at hSx); go_simp; (try with_reducible rfl))); (simp only [Act.put, List.setIfInBounds_toArray, List.set_cons_zero, List.set_cons_succ]))
      (refine wpTree_q 4 hTok hOps (by kernel_rfl) rfl rfl ⟨?_, ?_, ?_⟩; rotate_left; (focus (intro wx hSx; (try dsimp only at hSx); go_simp; (try with_reducible rfl))); (simp only [Act.put, List.setIfInBounds_toArray, List.set_cons_zero, List.set_cons_succ]))
      (refine wpTree_q 5 hTok hOps (by kernel_rfl) rfl rfl ⟨?_, ?_, ?_⟩; rotate_left; (focus (intro wx hSx; (try dsimp only at hSx); go_simp; (try with_reducible rfl))); (simp only [Act.put, List.setIfInBounds_toArray, List.set_cons_zero, List.set_cons_succ]))
      (refine wpTree_q 6 hTok hOps (by kernel_rfl) rfl rfl ⟨?_, ?_, ?_⟩; rotate_left; (focus (intro wx hSx; (try dsimp only at hSx); go_simp; (try with_reducible rfl))); (simp only [Act.put, List.setIfInBounds_toArray, List.set_cons_zero, List.set_cons_succ]))
      (refine wpTree_q 7 hTok hOps (by kernel_rfl) rfl rfl ⟨?_, ?_, ?_⟩; rotate_left; (focus (intro wx hSx; (try dsimp only at hSx); go_simp; (try with_reducible rfl))); (simp only [Act.put, List.setIfInBounds_toArray, List.set_cons_zero, List.set_cons_succ]))
      (refine wpTree_q 8 hTok hOps (by kernel_rfl) rfl rfl ⟨?_, ?_, ?_⟩; rotate_left; (focus (intro wx hSx; (try dsimp only at hSx); go_simp; (try with_reducible rfl))); (simp only [Act.put, List.setIfInBounds_toArray, List.set_cons_zero, List.set_cons_succ]))
      clear hwk hun
      have hkw : IntKind.i64.wrap (k : Int) = (k : Int) := IntWalk.i64_in _ (by omega)
      (refine wpTree_q 9 hTok hOps (by kernel_rfl) rfl rfl ⟨?_, ?_, ?_⟩; rotate_left; (focus (intro wx hSx; (try dsimp only at hSx); go_simp; (try with_reducible rfl))); (simp only [Act.put, List.setIfInBounds_toArray, List.set_cons_zero, List.set_cons_succ]))
      (refine wpTree_q 10 hTok hOps (by kernel_rfl) rfl rfl ⟨?_, ?_, ?_⟩; rotate_left; (focus (intro wx hSx; (try dsimp only at hSx); go_simp; (try with_reducible rfl))); (simp only [Act.put, List.setIfInBounds_toArray, List.set_cons_zero, List.set_cons_succ]))
      refine wpTree_1 11 hOps (by kernel_rfl) (by decide) rfl (fun K' hK => ?_)
      go_simp
      have bz' : Below W.heap.size W (wz.alloc (.cells #[.int .i64 0, .int .i64 0, .int .i64 0] 47)) := bz.alloc (by omega) _
      refine hK.out _ _ ⟨(bz'.cell (World.lt_of_cell c0)).trans c0, (bz'.cell (World.lt_of_cell m3)).trans m3, (bz'.cell (World.lt_of_cell g0)).trans g0, (bz'.cell (World.lt_of_cell g1)).trans g1, (bz'.cell (World.lt_of_cell g2)).trans g2⟩ ?_
      clear hK K'
      try simp only [Act.put, List.setIfInBounds_toArray, List.set_cons_zero, List.set_cons_succ]
      refine wpTree_nil hOps (by kernel_rfl) ?_
      refine hT.out _ _ ?_
      simp only [List.drop_succ_cons, List.drop_zero]
      clear hOps hT hTok
      try clear hHeld
      go_upto_region 9 with fail
      refine Code.wp_world ?_
      intro w5 hw5
      have hb5 : Below W.heap.size W w5 := by rw [hw5]; exact bz.alloc (by omega) _
      have hS5 : Blk w5 W.heap.size #[.int .i64 s.fLoc, .int .i64 s.fT.fEpoch, .int .i64 s.fT.fRound] 47 := by rw [hw5, ← hzs]; exact Blk.new _ _ _
      have hzW : z0 ≤ W.heap.size := by have := h.sz; omega
      have hbW := h.bel
      have h5 := h.below hzW hb5
      have hDl : D < W.heap.size := by
        obtain ⟨_, h1, _⟩ := hMk.lt _ (List.mem_singleton.2 rfl)
        obtain ⟨_, e, h2⟩ := hMk.lt _ (List.mem_singleton.2 rfl)
        cases e
        exact h2
      obtain ⟨zs, hzs2⟩ : ∃ zs, zs = W.heap.size := ⟨_, rfl⟩
      have hzs3 : zs < w5.heap.size := by rw [hzs2]; exact hS5.lt
      have hzs4 : n0 ≤ zs := by rw [hzs2]; exact h.sz
      rw [← hzs2] at hS5 hb5 ⊢
      replace hzs2 := Lib.hid hzs2
      clear hw5 hzs bz bz' c0 m3 g0 g1 g2
      have s0 := hS5.cellAt (i := 0) (v := .int .i64 s.fLoc) rfl
      have s1 := hS5.cellAt (i := 1) (v := .int .i64 s.fT.fEpoch) rfl
      have s2 := hS5.cellAt (i := 2) (v := .int .i64 s.fT.fRound) rfl
      go_upto_region 10 with fail
      refine Code.wp_world ?_
      intro w6 hw6
      have hb6 : Below w5.heap.size w5 w6 := by rw [hw6]; exact (Below.refl _ _).alloc (Nat.le_refl _) _
      have hB6 : Blk w6 w5.heap.size (encK ⟨s, -1⟩).toArray 57 := by rw [hw6]; exact Blk.new _ _ _
      have hz6 : w5.heap.size < w6.heap.size := hB6.lt
      have h6 := h5.below (by omega) hb6
      have hS6 := hS5.below hb6 hzs3
      obtain ⟨zk, hzk⟩ : ∃ zk, zk = w5.heap.size := ⟨_, rfl⟩
      rw [← hzk] at hB6 hb6 hz6 hzs3 ⊢
      have hb56 : Below zs W w6 := hb5.trans (hb6.mono (by omega))
      have hK6 : OwnL encK w6 zk 57 4 (.slice (some ⟨zk, 0, none⟩) 1 1) (movC s []) := OwnL.of_blk (xs := movC s []) (cap := 1) hB6 (Nat.le_refl _) (Nat.le_refl 1) (by unfold maxLen; omega) rfl rfl rfl
      replace hzk := Lib.hid hzk
      clear hw6 hB6 hb5 h5 hS5 s0 s1 s2 h
      have s0 := hS6.cellAt (i := 0) (v := .int .i64 s.fLoc) rfl
      have s1 := hS6.cellAt (i := 1) (v := .int .i64 s.fT.fEpoch) rfl
      have s2 := hS6.cellAt (i := 2) (v := .int .i64 s.fT.fRound) rfl
      have cg := h6.eg.cellAt (i := 0) (v := .slice ao n cap) rfl
      have hNx := rnext_any ops cap ao s.fLoc s.fT.fEpoch s.fT.fRound B w6 (by have := h6.bel.size; have := hz0.out; omega) (imp_ops hx (h6.bel.mono (by have := hz0.out; omega)))
      rw [← hn.out] at hNx
      have hnxw : ∀ x ∈ nextS ops s.fLoc s.fT.fEpoch s.fT.fRound, wfS x := fun x hx => (next_wf hok.out hno hws hx).2
      have hnxl := hnx s
      obtain ⟨nx, hnxe⟩ : ∃ nx, nx = nextS ops s.fLoc s.fT.fEpoch s.fT.fRound := ⟨_, rfl⟩
      rw [← hnxe] at hNx hnxw hnxl
      replace hnxe := Lib.hid hnxe
      go_wp2_with fail
      refine hNx.mono ?_
      rintro e w7' ⟨hb7', v7, rfl, hown7⟩
      obtain ⟨w8, hw8⟩ : ∃ w8, w8 = w7' := ⟨_, rfl⟩
      rw [← hw8] at hb7' hown7 ⊢
      clear hw8 w7'
      have h8 := h6.below (by omega) hb7'
      have hown8 := hown7.base_le (base' := zk) (by omega)
      have hK8 := hK6.chg (Chg.of_below hb7') (fun g e1 e2 => by have := (hK6.lt g e1).2; omega)
      have hb8 : Below zs W w8 := hb56.trans (hb7'.mono (by omega))
      have hzk8 : zk < w8.heap.size := by have := hb7'.size; omega
      obtain ⟨nn, hnn⟩ : ∃ nn, nn = nx.length := ⟨_, rfl⟩
      obtain ⟨anx, cnx, hvx, _, _, _⟩ := hown8.slice
      rw [← hnn] at hvx hnxl
      subst hvx
      replace hnn := Lib.hid hnn
      clear hNx hown7 h6 hS6 hK6 hb56 hb7' s0 s1 s2 cg
      dsimp only
      have hout : ∀ (wf : World) (vf : Value) (lf : List TStamp), Below z0 W wf → OwnL encK wf zk 57 4 vf (movC s lf) → (∀ a ∈ lf, a ∈ nx) → lf.length ≤ nn → Below w.heap.size w wf ∧ ∃ v l, Ending.returned vf = .returned v ∧ OwnL encK wf w.heap.size 57 4 v l ∧ (l = [] ∨ ∃ s t, l = movC s t ∧ 0 < m.c 0 s ∧ wfS s ∧ (∀ a ∈ t, a ∈ nextS ops s.fLoc s.fT.fEpoch s.fT.fRound) ∧ t.length ≤ 16777300) := fun wf vf lf hbf hof hlf hln => by
        have h1 := hz0.out
        rw [hnxe.out] at hlf
        refine ⟨?_, vf, movC s lf, rfl, hof.base_le (by omega), .inr ⟨s, lf, rfl, hAps.out.1, hws, hlf, by omega⟩⟩
        rw [← h1]
        exact hbW.trans hbf
      replace hout := Lib.hid hout
      go_wp2_with fail
      go_loopw [10, 12] (fun x10 x12 wr => ∃ (j : Nat) (L : List TStamp), j ≤ nn ∧ x12 = .int .i64 j ∧ (∀ a ∈ L, a ∈ nx) ∧ L.length ≤ j ∧ Below zk w8 wr ∧ OwnL encS wr zk 47 3 (.slice anx nn cnx) nx ∧ OwnL encK wr zk 57 4 x10 (movC s L)) (fun _ x12 _ => nn - (intOf x12).toNat)
      case atStart => exact ⟨0, [], Nat.zero_le _, rfl, by simp, Nat.le_refl _, Below.refl _ _, hown8, hK8⟩
      case round =>
        clear hown8 hK8
        obtain ⟨j, L, hjn, rfl, hLm, hLl, hbr, hoS, hoK⟩ := hrel
        obtain ⟨nK, hnK⟩ : ∃ nK, nK = (movC s L).length := ⟨_, rfl⟩
        obtain ⟨aK, cK, hvK, _, _, _⟩ := hoK.slice
        rw [← hnK] at hvK
        subst hvK
        have hszr := hbr.size
        have cA := (hbr.cell (p := ⟨zA, 0, none⟩) (by show zA < zk; omega)).trans (h8.ag.cellAt (i := 0) (v := .slice (some ⟨b3, off3, none⟩) nA cvv) rfl)
        have m4 := (hbr.cell (p := ⟨z0 + 1, 4, none⟩) (by show z0 + 1 < zk; omega)).trans (h8.mg.cellAt (i := 4) (v := .int .i64 q5) rfl)
        by_cases hlt : j < nn ∧ nA < 20
        · have hj1 := hlt.1
          have hj2 := hlt.2
          have d1 : decide ((j : Int) < (nn : Int)) = true := by simp; omega
          have d2 : decide ((nA : Int) < 20) = true := by simp; omega
          have hjx : j < nx.length := by rw [← hnn.out]; exact hj1
          obtain ⟨y, hy⟩ : ∃ y, nx[j] = y := ⟨_, rfl⟩
          obtain ⟨anx', cnx', hvx', hnxs⟩ := hoS.sla (E := RStamp wr.heap.size) encS_len (fun x hx => ⟨rfl, hnxw x hx⟩)
          rw [← hnn.out] at hvx'
          cases hvx'
          obtain ⟨b4, off4, rfl, hb4l, _⟩ := hnxs.addr (by omega)
          obtain ⟨g0, g1, g2, hwy⟩ := RStamp.at hnxs hjx hy
          have hym : y ∈ nx := by rw [← hy]; exact List.getElem_mem hjx
          replace hy := Lib.hid hy
          have hse : (#[.int .i64 y.fLoc, .int .i64 y.fT.fEpoch, .int .i64 y.fT.fRound, .int .i64 1] : Array Value) = (encK ⟨y, 1⟩).toArray := rfl
          replace hse := Lib.hid hse
          have hnKl : nK ≤ 16777301 := by rw [hnK, mov_len]; omega
          have hLm2 : ∀ a ∈ L ++ [y], a ∈ nx := fun a ha => by
            rcases List.mem_append.1 ha with h | h
            · exact hLm a h
            · obtain rfl := List.mem_singleton.1 h
              exact hym
          have hLl2 : (L ++ [y]).length ≤ j + 1 := by rw [List.length_append]; simp; omega
          replace hLm := Lib.hid hLm
          replace hLm2 := Lib.hid hLm2
          replace hLl := Lib.hid hLl
          replace hLl2 := Lib.hid hLl2
          replace hnK := Lib.hid hnK
          clear hlt hwy hym hnxs
          go_upto_region 15 with fail
          · go_wp2_with (at_builtin; refine Shut.out ?kap)
            unfold Shut
            rw [hse.out]
            refine wpList_app1 rfl _ _ 25 rfl Try.underlying25 hiK hK0 hK1 hK2 rfl (by decide) (enc := encK) ⟨y, 1⟩ rfl hoK rfl (encK_len _) (encK_one _) (by rw [← hnK.out]; omega) (by rw [← hnK.out]; unfold maxLen; omega) (by omega) ?_
            intro a3 cp3 w11 hoK1 hb11 hgr11
            have hoS1 := hoS.chg (Chg.of_grown hgr11) (own_apart hoS hoK (by decide))
            have hbr1 := hbr.trans hb11
            rw [← mov_snoc, ← hnK.out] at hoK1
            rw [← hnK.out]
            clear hgr11 hoK hoS hb11 hbr g0 g1 g2 cA m4
            go_wp2_with fail
            go_roundw
            case rel => exact ⟨j + 1, L ++ [y], by omega, by go_num, hLm2.out, hLl2.out, hbr1, hoS1, hoK1⟩
            case measure => simp [intOf]; omega
          · go_roundw
            case rel => exact ⟨j + 1, L, by omega, by go_num, hLm.out, by have := hLl.out; omega, hbr, hoS, hoK⟩
            case measure => simp [intOf]; omega
        · have hcase : j = nn ∨ (j < nn ∧ 20 ≤ nA) := by omega
          obtain ⟨vK, hvK⟩ : ∃ vK, vK = Value.slice aK nK cK := ⟨_, rfl⟩
          rw [← hvK] at hoK
          replace hvK := Lib.hid hvK
          replace hLm := Lib.hid hLm
          replace hLl := Lib.hid hLl
          replace hnK := Lib.hid hnK
          clear hlt
          rcases hcase with rfl | ⟨d1, d2'⟩
          · go_wp2_with fail
            rw [← hvK.out]
            have hbf := hb8.trans (hbr.mono (by omega))
            have hMf := hMk.chg (Chg.of_below hbf) (fun k hk y e => by have := (Array.getElem?_eq_some_iff.1 e).1; have := hzs2.out; omega)
            refine leavesM_marks _ _ hMf (Nat.le_trans hzW hbf.size) (fun w' hs => ?_)
            exact ⟨vK, by first | exact results_tmp rfl _ _ _ | simp [results, Try.results9, go_sem], hout.out w' vK L ((hbf.mono (by omega)).trans hs.below) (hs.own (hoK.base_le (base' := zk) (Nat.le_refl _))) hLm.out (by have := hLl.out; omega)⟩
          · have d1' : decide ((j : Int) < (nn : Int)) = true := by simp; omega
            have d2 : decide ((nA : Int) < 20) = false := by simp; omega
            go_wp2_with fail
            rw [← hvK.out]
            have hbf := hb8.trans (hbr.mono (by omega))
            have hMf := hMk.chg (Chg.of_below hbf) (fun k hk y e => by have := (Array.getElem?_eq_some_iff.1 e).1; have := hzs2.out; omega)
            refine leavesM_marks _ _ hMf (Nat.le_trans hzW hbf.size) (fun w' hs => ?_)
            exact ⟨vK, by first | exact results_tmp rfl _ _ _ | simp [results, Try.results9, go_sem], hout.out w' vK L ((hbf.mono (by omega)).trans hs.below) (hs.own (hoK.base_le (base' := zk) (Nat.le_refl _))) hLm.out (by have := hLl.out; omega)⟩
end Go.Proofs.Ytjmbafcpbagpdaa
