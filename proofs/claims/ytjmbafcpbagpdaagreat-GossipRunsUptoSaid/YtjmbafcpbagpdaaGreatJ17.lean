/- Gossip: True. -/
import Derived.Test.YtjmbafcpbagpdaaGreatJ11
import Derived.Test.YtjmbafcpbagpdaaGreatPv
import Derived.Test.YtjmbafcpbagpdaaGreatL10
import Derived.Test.YtjmbafcpbagpdaaGreatPs
namespace Go.Proofs.YtjmbafcpbagpdaaGreat
open Go.RowKit Go.Shelf Go.Maps
attribute [local go_sem] Oper.semAt_some
set_option linter.unusedVariables false
set_option linter.unusedSimpArgs false

/-- What True has told so far. -/
def accT (pre : List TCount) (s : TStamp) : Int := totC (pre.filter fun c => decide (0 < c.fN)) s
theorem accT_snoc (pre : List TCount) (c : TCount) (s : TStamp) : accT (pre ++ [c]) s = accT pre s + if c.fS = s ∧ 0 < c.fN then c.fN else 0 := by
  unfold accT
  rw [List.filter_append, totC_append]
  congr 1
  by_cases h : 0 < c.fN
  · rw [List.filter_cons_of_pos (by simpa using h), List.filter_nil]
    unfold totC
    by_cases hs : c.fS = s <;> simp [hs, h]
  · rw [List.filter_cons_of_neg (by simpa using h), List.filter_nil, if_neg (by simp [h])]
    rfl
theorem tot_outJ {s : TStamp} : ∀ {l : List TCount}, s ∉ l.map (·.fS) → totC l s = 0 := fun h => tot_noneJ (fun d hd e => h (List.mem_map.2 ⟨d, hd, e⟩))
theorem accT_out {pre : List TCount} {s : TStamp} (h : s ∉ pre.map (·.fS)) : accT pre s = 0 :=
  tot_outJ (fun hm => h (by
    obtain ⟨d, hd, e⟩ := List.mem_map.1 hm
    exact List.mem_map.2 ⟨d, (List.mem_filter.1 hd).1, e⟩))
theorem accT_val : ∀ {L : List TCount}, (L.map (·.fS)).Nodup → ∀ c ∈ L, accT L c.fS = if 0 < c.fN then c.fN else 0
  | [], _, c, hc => by cases hc
  | d :: L, hn, c, hc => by
    rw [List.map_cons, List.nodup_cons] at hn
    have h1 : accT (d :: L) c.fS = (if d.fS = c.fS ∧ 0 < d.fN then d.fN else 0) + accT L c.fS := by
      unfold accT
      by_cases h : 0 < d.fN
      · rw [List.filter_cons_of_pos (by simpa using h), totC_cons]
        by_cases hs : d.fS = c.fS <;> simp [hs, h]
      · rw [List.filter_cons_of_neg (by simpa using h), if_neg (by simp [h]), Int.zero_add]
    rw [h1]
    rcases List.mem_cons.1 hc with rfl | hc
    · rw [accT_out hn.1, Int.add_zero]
      simp
    · rw [accT_val hn.2 c hc, if_neg, Int.zero_add]
      rintro ⟨e, _⟩
      exact hn.1 (by rw [e]; exact List.mem_map.2 ⟨c, hc, rfl⟩)
def posF (c : CF) : CF := fun s => if 0 < c s then c s else 0
theorem accT_all {cs : List (TStamp × Int)} {L : List TCount} (h : IsAll cs L) (s : TStamp) : accT L s = posF (cntC cs) s := by
  have hn : (L.map (·.fS)).Nodup := h.sort.imp (fun {a b} h e => by rw [e] at h; exact ltS_irrefl _ h)
  unfold posF
  by_cases hm : s ∈ L.map (·.fS)
  · obtain ⟨c, hc, rfl⟩ := List.mem_map.1 hm
    rw [accT_val hn c hc, h.val c hc]
  · rw [accT_out hm, cntC_out, if_neg (by omega)]
    intro p hp e
    exact hm (h.perm.mem_iff.2 (List.mem_map.2 ⟨p, hp, e⟩))
theorem nodup_lenJ : ∀ {l B : List TStamp}, l.Nodup → (∀ s ∈ l, s ∈ B) → l.length ≤ B.length
  | [], _, _, _ => Nat.zero_le _
  | a :: r, B, hn, hs => by
    rw [List.nodup_cons] at hn
    have ha := hs a (by simp)
    have := nodup_lenJ (l := r) (B := B.erase a) hn.2 (fun s hsr => by
      have hne : s ≠ a := fun e => by subst e; exact hn.1 hsr
      exact (List.mem_erase_of_ne hne).2 (hs s (by simp [hsr])))
    rw [List.length_erase_of_mem ha] at this
    have := List.length_pos_of_mem ha
    rw [List.length_cons]
    omega
theorem keys_len {w : World} {base tb : Nat} {x : TrX} {ops : List TOp} {cs : List (TStamp × Int)} (h : Tr w base tb x ops cs) {K : List TStamp} (hK : ∀ s, cntC cs s ≠ 0 → s ∈ K) : cs.length ≤ K.length := by
  have := nodup_lenJ h.nodup (fun s hs => hK s ((key_iff h.nodup h.nz s).1 hs))
  simpa using this
/-- Between two rounds. -/
def TrI2 (w0 : World) (lo B tb tx : Nat) (x : TrX) (ops : List TOp) {cs : List (TStamp × Int)} (pre : List (CountOf cs)) (W : World) : Prop :=
  (∃ cs', Tr W B tb x ops cs' ∧ (∀ s, cntC cs' s ≠ 0 → s ∈ (pre.map (·.1)).map (·.fS)) ∧ (((pre.map (·.1)).map (·.fS)).Nodup → ∀ s, cntC cs' s = accT (pre.map (·.1)) s)) ∧ Blk W tx #[.pointer (some ⟨tb, 0, none⟩)] 61 ∧ Below w0.heap.size w0 W ∧ lo ≤ W.heap.size
/-- What is left in the box of the round. -/
def remB (W : World) (Bx : Nat) : Nat := ((W.cell? ⟨Bx, 3, none⟩).map fun v => (intOf v).toNat).getD 0
theorem remB_blk {W : World} {Bx : Nat} {a b c : Value} {r : Int} (h : Blk W Bx #[a, b, c, .int .i64 r] 67) : remB W Bx = r.toNat := by
  unfold remB
  rw [h.cellAt (i := 3) (v := .int .i64 r) rfl]
  rfl

theorem keepsFromJ {S : Nat → Prop} {W W' : World} {B : Nat} (hc : Chg S W W') (hS : ∀ k, S k → k < W.heap.size → k < B ∨ ∃ cs T f, W.heap[k]? = some (.cells cs T f)) : KeepsFrom B W W' :=
  ⟨hc.size, fun k o hB hk ho => by
    have hlt := (Array.getElem?_eq_some_iff.1 hk).1
    rw [hc.block k hlt (fun s => by
      rcases hS k s hlt with h | ⟨cs, T, f, h⟩
      · omega
      · rw [h] at hk; cases hk; cases ho), hk]⟩
theorem upd_one {ops : List TOp} {cs : List (TStamp × Int)} {s : TStamp} {k : Int} (hg : goodS ops s.fLoc s.fT.fEpoch s.fT.fRound = true) (hk : 0 < k ∧ k ≤ 2147483648) (hc : -4611686018427387904 ≤ cntC cs s ∧ cntC cs s + k ≤ 4611686018427387904) : updE ops cs [⟨s, k⟩] = 0 := by
  unfold updE
  rw [if_neg, if_pos]
  · intro q hq
    have h1 := nxL_val hq
    obtain ⟨c, hc2, he⟩ := nxL_keys [⟨s, k⟩] 1 (Nat.le_refl _) q hq
    rw [List.mem_singleton] at hc2
    subst hc2
    have hs : q.1 = s := he.symm
    unfold passC
    have ht : totC [(⟨s, k⟩ : TCount)] s = k := by simp [totC]
    rw [h1, hs, ht, wrap_add', IntWalk.wrap64_in _ (by omega)]
    omega
  · simp only [List.all_cons, List.all_nil, Bool.and_true, Bool.not_eq_false]
    unfold okC
    dsimp only
    rw [hg, Bool.and_true, Bool.and_eq_true, decide_eq_true_eq, decide_eq_true_eq]
    omega
theorem tot_one (s t : TStamp) (k : Int) : totC [(⟨s, k⟩ : TCount)] t = if s = t then k else 0 := by simp [totC]
/-- Within a round: r of the number is still to be told. -/
structure TrJ (W wx : World) (B tb tx Bx : Nat) (x : TrX) (ops : List TOp) (P0 : List TCount) (d : TCount) (r : Int) : Prop where
  r1 : r = d.fN ∨ 0 ≤ r
  r2 : r ≤ d.fN
  box : Blk wx Bx #[.int .i64 d.fS.fLoc, .int .i64 d.fS.fT.fEpoch, .int .i64 d.fS.fT.fRound, .int .i64 r] 67
  tr : ∃ cs', Tr wx B tb x ops cs' ∧ (∀ s, cntC cs' s ≠ 0 → s ∈ (P0 ++ [d]).map (·.fS)) ∧ (((P0 ++ [d]).map (·.fS)).Nodup → ∀ s, cntC cs' s = accT P0 s + if d.fS = s then d.fN - r else 0)
  chg : Chg (fun k => k = x.mb ∨ k = Bx) W wx
  tbx : Blk wx tx #[.pointer (some ⟨tb, 0, none⟩)] 61

set_option maxRecDepth 100000 in
set_option maxHeartbeats 4000000 in
theorem true_any {A U gb N M : Nat} {X : Nat → Prop} {p : GP} {ops : List TOp} {m : GM} (w : World) (hG : Gos w A U X gb p ops m N M) (hpg : p.gops = ops) (hzi : ∀ o ∈ ops, o.fIn.length * 8 ≤ 140737488355328) (hN : N ≤ 1000000000) :
    Calls Tryz.prog 19 #[.pointer (some ⟨gb, 0, none⟩)] w fun e w' => Below w.heap.size w w' ∧ ∃ tb x cs', e = .returned (.pointer (some ⟨tb, 0, none⟩)) ∧ Tr w' w.heap.size tb x ops cs' ∧ cntC cs' = posF (m.c 0) ∧ cs'.length ≤ N := by
  obtain ⟨ao, cap, hgv, hs⟩ := hG.gr.sla
  rw [hpg] at hgv hs
  obtain ⟨ws, hB, hW⟩ := hG.blk
  obtain ⟨⟨ca, hTa, hca, hcl⟩, ht1, ht2⟩ := hG.trs 0 (Nat.zero_le _)
  have hok := hG.ok
  have hgw : gb < w.heap.size := hB.lt
  have c0 : w.cell? ⟨gb, 0, none⟩ = some (.slice ao ops.length cap) := by rw [← hgv]; exact hB.cellAt rfl
  have c1 : w.cell? ⟨gb, 1, none⟩ = some (.pointer (some ⟨(p.tp 0).tb, 0, none⟩)) := hB.cellAt rfl
  have hNw := new_ok ops ao cap w hs hok hzi
  rw [← hca]
  obtain ⟨n, hn⟩ : ∃ n, n = ops.length := ⟨_, rfl⟩
  rw [← hn] at c0 hNw
  obtain ⟨ta, hta⟩ : ∃ ta, ta = (p.tp 0).tb := ⟨_, rfl⟩
  rw [← hta] at c1 hTa
  obtain ⟨xa, hxa⟩ : ∃ xa, xa = (p.tp 0).x := ⟨_, rfl⟩
  obtain ⟨ba, hba⟩ : ∃ ba, ba = (p.tp 0).base := ⟨_, rfl⟩
  rw [← hxa, ← hba] at hTa
  replace hNw := Lib.hid hNw
  replace hok := Lib.hid hok
  have hcag : ∀ q ∈ ca, goodS ops q.1.fLoc q.1.fT.fEpoch q.1.fT.fRound = true ∧ (q.2 ≤ 4611686018427387904 ∧ -4611686018427387904 ≤ q.2) ∧ wfS q.1 := fun q hq => ⟨hTa.good q hq, ⟨(hTa.nz q hq).2.2, (hTa.nz q hq).2.1⟩, hTa.map.wf (encC q) (List.mem_map.2 ⟨q, hq, rfl⟩)⟩
  have hcan := hTa.nodup
  replace hcag := Lib.hid hcag
  replace hcan := Lib.hid hcan
  clear hB hW ht1 ht2 hG hca hta hxa hba hgv hn hs
  refine calls_of_marks Tryz.func19 rfl ?_
  simp only [Tryz.ntmps19, List.size_toArray, List.length_cons, List.length_nil, Nat.reduceAdd, Nat.reduceSub, Array.replicate_succ, Array.replicate_zero, List.push_toArray, List.append_toArray, List.nil_append, List.cons_append]
  go_wp2_with fail
  refine hNw.out.mono ?_
  rintro e w1 ⟨hb1, tb, x, rfl, hT1⟩
  have hTa1 := hTa.below hb1
  have c1' := (hb1.cell (p := ⟨gb, 1, none⟩) hgw).trans c1
  have htl := hT1.blk.lt
  have hml := hT1.map.lt
  dsimp only
  go_upto_region 4 with fail
  refine Code.wp_world ?_
  intro w2 hw2
  have hb12 : Below w1.heap.size w1 w2 := by rw [hw2]; exact (Below.refl _ _).alloc (Nat.le_refl _) _
  have hX2 : Blk w2 w1.heap.size #[.pointer (some ⟨tb, 0, none⟩)] 61 := by rw [hw2]; exact Blk.new _ _ _
  have c12 := (hb12.cell (p := ⟨gb, 1, none⟩) (World.lt_of_cell c1')).trans c1'
  have hT2 := hT1.below hb12
  have hTa2 := hTa1.below hb12
  have hb2 := hb1.trans (hb12.mono hb1.size)
  obtain ⟨tx, htx⟩ : ∃ tx, tx = w1.heap.size := ⟨_, rfl⟩
  rw [← htx] at hX2 htl hml ⊢
  have hxl : tx < w2.heap.size := hX2.lt
  replace htx := Lib.hid htx
  clear hw2 hNw hT1 hTa1 hTa c1' c1 c0 hb12 hb1
  go_wp2_with fail
  refine (tall_any ta w2).mono ?_
  rintro e w7 ⟨rfl, hw7⟩
  have hb7 : Below w2.heap.size w2 w7 := by rw [hw7]; exact (Below.refl _ _).alloc (Nat.le_refl _) _
  have hB7 : Blk w7 w2.heap.size #[.pointer (some ⟨ta, 0, none⟩)] 61 := by rw [hw7]; exact Blk.new _ _ _
  have hX7 := hX2.below hb7 hX2.lt
  have hT7 := hT2.below hb7
  have hb07 := hb2.trans (hb7.mono hb2.size)
  obtain ⟨bq, hbq⟩ : ∃ bq, bq = w2.heap.size := ⟨_, rfl⟩
  rw [← hbq] at hB7 hxl ⊢
  have hst := tall_stops (8 - 1) (by omega) bq ta w7 (hB7.cellAt rfl) (hTa2.below hb7) (by omega)
  have hbql : bq < w7.heap.size := hB7.lt
  replace hbq := Lib.hid hbq
  clear hw7 hX2 hT2 hTa2 hb7 hb2 c12
  dsimp only
  go_wp2_with fail
  refine (wpIn_wide (n := 8)).1 ?_
  refine wpIn_range_boxed (α := CountOf ca) rfl (by omega) (gf := 43) (lb := #[.pointer (some ⟨bq, 0, none⟩)]) rfl trivial (enters_of Tryz.func43 (by kernel_rfl) rfl)
    hst KeepIt.trans (fun W l o o' h1 h2 h3 h4 => KeepIt.put o' (by omega) h2 h3 h4) (Below.refl _ _) (fun _ => rfl)
    (TrI2 w w7.heap.size w.heap.size tb tx x ops) (fun _ _ _ => False) ?hI (fun _ _ _ _ _ h _ _ => h.elim) ⟨⟨[], hT7, fun s hs => absurd rfl hs, fun _ s => rfl⟩, hX7, hb07, Nat.le_refl _⟩
    (fun c Bx W => w7.heap.size ≤ Bx ∧ Blk W Bx (encK c.1).toArray 67) ?hPB
    (fun c Bx => { tmps := #[.pointer (some ⟨gb, 0, none⟩), undef, .pointer none, .pointer (some ⟨tx, 0, none⟩), .int IntKind.i64 0, .pointer (some ⟨Bx, 0, none⟩), undef, .pointer (some ⟨gb, 0, none⟩), .bool false, .tuple #[.pointer (some ⟨tb, 0, none⟩), .int IntKind.i64 0], .pointer (some ⟨gb, 0, none⟩), .pointer (some ⟨gb, 0, none⟩), .pointer (some ⟨gb, 0, none⟩), .agg #[.slice ao n cap], .tuple #[.pointer (some ⟨tb, 0, none⟩), .int IntKind.i64 0], .pointer (some ⟨tb, 0, none⟩), .int IntKind.i64 0, .pointer (some ⟨gb, 0, none⟩), .pointer (some ⟨gb, 0, none⟩), .pointer (some ⟨gb, 1, none⟩), .pointer (some ⟨ta, 0, none⟩), .func (.func 43) #[] #[.pointer (some ⟨bq, 0, none⟩)], mkK c.1, undef, undef, undef, undef, undef, undef, undef, undef, undef, undef, undef, undef, undef, undef, undef, undef, undef, undef, undef], defers := [] })
    ?assign ?body ?done ?stop
  case hI =>
    rintro s Xw Y row ⟨⟨cs', h1, h2, h3⟩, h4, h5, h6⟩ hg hr
    have hr' : ∀ r, row = some r → ∃ o : Obj, Xw.heap[r]? = some o ∧ o.isCells = false := fun r e => (hr r e).2
    have hw7 := hb07.size
    exact ⟨⟨cs', h1.chgU (U := w7.heap.size) (Chg.of_grown hg) (fun k e => (hr k e).1) (by omega) (by omega), h2, h3⟩, h4.grownN hg hr', h5.grown hg h5.size (fun g e => by have := (hr g e).1; omega), Nat.le_trans h6 hg.size⟩
  case hPB =>
    rintro c Bx s Xw Y row ⟨h1, h2⟩ hg hr
    exact ⟨h1, h2.grownN hg (fun r e => (hr r e).2)⟩
  case assign =>
    rintro l pre c W K ⟨⟨cs', h1, h2, h3⟩, h4, h5, h6⟩ hK
    obtain ⟨d, hd⟩ : ∃ d, d = c.1 := ⟨_, rfl⟩
    rw [← hd] at hK ⊢
    obtain ⟨⟨cl, ⟨ce, cr⟩⟩, cn⟩ := d
    dsimp only [mkK] at hK ⊢
    gi_wp2
    have hch : Chg (fun _ => False) W (W.alloc (.cells #[.int .i64 cl, .int .i64 ce, .int .i64 cr, .int .i64 cn] 67)) := (Chg.refl _ _).alloc _
    have hbw := below_allocJ W (.cells #[.int .i64 cl, .int .i64 ce, .int .i64 cr, .int .i64 cn] 67)
    exact hK _ _ (keepsFrom_of_chg hch (fun _ h _ => h.elim)) (KeepIt.of_chg hch (fun _ h _ => h.elim)) ⟨⟨cs', h1.below hbw, h2, h3⟩, h4.alloc _, h5.trans (hbw.mono h5.size), Nat.le_trans h6 hbw.size⟩ ⟨h6, Blk.new _ _ _⟩
  case body =>
    rintro l pre c Bx W hl ⟨r, hr⟩ ⟨⟨cs', h1, h2, h3⟩, h4, h5, h6⟩ ⟨hBx, hX⟩ hlt
    have hw7 := hb07.size
    obtain ⟨d, hd⟩ : ∃ d, d = c.1 := ⟨_, rfl⟩
    have hdx := c.2
    rw [← hd] at hX hdx ⊢
    have hdg : goodS ops d.fS.fLoc d.fS.fT.fEpoch d.fS.fT.fRound = true ∧ (d.fN ≤ 4611686018427387904 ∧ -4611686018427387904 ≤ d.fN) ∧ wfS d.fS := by
      obtain ⟨q, hq, he⟩ := List.mem_map.1 hdx.1
      have h := hcag.out q hq
      have hv : d.fN = q.2 := by
        rw [hdx.2, ← he]
        unfold cntC
        rw [getC_of_mem hcan.out (show (q.1, q.2) ∈ ca from hq)]
        rfl
      rw [← he, hv]
      exact h
    obtain ⟨P0, hP0⟩ : ∃ P0, P0 = pre.map (·.1) := ⟨_, rfl⟩
    rw [← hP0] at h2 h3
    have hpl : P0.length < N := by rw [hP0, List.length_map]; omega
    have hX0 : Blk W Bx #[.int .i64 d.fS.fLoc, .int .i64 d.fS.fT.fEpoch, .int .i64 d.fS.fT.fRound, .int .i64 d.fN] 67 := hX
    have hJ0 : TrJ W W w.heap.size tb tx Bx x ops P0 d d.fN := by
      refine ⟨.inl rfl, Int.le_refl _, hX0, ⟨cs', h1, fun s hs => ?_, fun hn s => ?_⟩, Chg.refl _ _, h4⟩
      · rw [List.map_append]
        exact List.mem_append.2 (.inl (h2 s hs))
      · rw [List.map_append] at hn
        rw [h3 (List.nodup_append.1 hn).1 s, Int.sub_self]
        split <;> simp
    have hBW : Bx < W.heap.size := hX0.lt
    have hXW := Lib.hid hX0
    have hxm : x.mb < W.heap.size := h1.map.lt
    have hxmB : x.mb ≠ Bx := by omega
    have hxtB : tx < Bx := by omega
    replace hdg := Lib.hid hdg
    replace hdx := Lib.hid hdx
    replace hd := Lib.hid hd
    replace hP0 := Lib.hid hP0
    clear h1 h2 h3 h4 hX hX0
    gi_wp2
    gi_loopw [6] (fun _ wx => ∃ r : Int, TrJ W wx w.heap.size tb tx Bx x ops P0 d r) (fun _ wx => remB wx Bx)
    case atStart => exact ⟨_, hJ0⟩
    case round =>
      clear hJ0
      obtain ⟨rr, hJ⟩ := hrel
      have x0 := hJ.box.cellAt (i := 0) (v := .int .i64 d.fS.fLoc) rfl
      have x1 := hJ.box.cellAt (i := 1) (v := .int .i64 d.fS.fT.fEpoch) rfl
      have x2 := hJ.box.cellAt (i := 2) (v := .int .i64 d.fS.fT.fRound) rfl
      have x3 := hJ.box.cellAt (i := 3) (v := .int .i64 rr) rfl
      have xt := hJ.tbx.cellAt (i := 0) (v := .pointer (some ⟨tb, 0, none⟩)) rfl
      by_cases hpos : 0 < rr
      · have dp : decide ((0 : Int) < rr) = true := by simpa using hpos
        obtain ⟨nm, hnm⟩ : ∃ nm, nm = min rr 2147483648 := ⟨_, rfl⟩
        have hn1 : 0 < nm ∧ nm ≤ 2147483648 ∧ nm ≤ rr := by rw [hnm]; omega
        gi_wp2
        rw [← hnm]
        replace hnm := Lib.hid hnm
        have hbB := below_allocJ wr (.cells #[.int .i64 d.fS.fLoc, .int .i64 d.fS.fT.fEpoch, .int .i64 d.fS.fT.fRound, .int .i64 nm] 67)
        have hBB := Blk.new wr #[.int .i64 d.fS.fLoc, .int .i64 d.fS.fT.fEpoch, .int .i64 d.fS.fT.fRound, .int .i64 nm] 67
        generalize wr.alloc (.cells #[.int .i64 d.fS.fLoc, .int .i64 d.fS.fT.fEpoch, .int .i64 d.fS.fT.fRound, .int .i64 nm] 67) = wB at hbB hBB ⊢
        obtain ⟨cs', hTr, hK1, hK2⟩ := hJ.tr
        have hl1 : SlA wB.heap.size 4 (RCount wB.heap.size) wB (some ⟨wr.heap.size, 0, none⟩) 1 [⟨d.fS, nm⟩] := by
          refine SlA.of_blk hBB hBB.lt (Nat.le_refl 1) (by unfold maxLen; omega) ?_
          intro i hi
          match i, hi with
          | 0, _ => exact ⟨[.int .i64 d.fS.fLoc, .int .i64 d.fS.fT.fEpoch, .int .i64 d.fS.fT.fRound, .int .i64 nm], rfl, fun j hj => (match j, hj with | 0, _ | 1, _ | 2, _ | 3, _ => rfl), rfl, hdg.out.2.2.1, hdg.out.2.2.2.1, hdg.out.2.2.2.2, by
              have h10 := wrap64_wf nm
              rwa [IntWalk.wrap64_in _ (by omega)] at h10⟩
        have hTB := hTr.below hbB
        have hkl := keys_len hTr hK1
        rw [List.length_map, List.length_append, List.length_singleton] at hkl
        have hup := update_any [⟨d.fS, nm⟩] _ 1 wB hTB hl1 (by simp) (by simp; omega)
        have hd2 := hdg.out.2.1
        have hr2 := hJ.r2
        have hmlr : x.mb < wr.heap.size := hTr.map.lt
        refine ⟨trivial, CallsIn.mono (CallsIn.inRound l (callsIn_wide.2 hup)) ?_⟩
        rintro e w5 ⟨rfl, hc5, hbad5, hgood5⟩
        have hc15 : Chg (fun k => k = x.mb) wr w5 := ((Chg.of_below hbB).mono (fun k hk e => absurd hk (by omega))).trans hc5
        have hX5 := hJ.box.chg hc15 (fun e => hxmB e.symm)
        have hx5 := hJ.tbx.chg hc15 (fun e => by omega)
        have hW5 : Chg (fun k => k = x.mb ∨ k = Bx) W w5 := hJ.chg.trans (hc15.mono (fun k _ e => .inl e))
        have htr5 : ∃ cs'', Tr w5 w.heap.size tb x ops cs'' ∧ (∀ s, cntC cs'' s ≠ 0 → s ∈ (P0 ++ [d]).map (·.fS)) ∧ (((P0 ++ [d]).map (·.fS)).Nodup → ∀ s, cntC cs'' s = accT P0 s + if d.fS = s then d.fN - (rr - nm) else 0) := by
          have hnd : ((P0 ++ [d]).map (·.fS)).Nodup → cntC cs' d.fS = d.fN - rr := fun hn => by
            rw [hK2 hn d.fS, if_pos rfl, accT_out, Int.zero_add]
            rw [List.map_append, List.nodup_append] at hn
            intro hm
            exact hn.2.2 d.fS hm d.fS (by simp) rfl
          by_cases hu : updE ops cs' [⟨d.fS, nm⟩] = 0
          · obtain ⟨cs'', q1, q2, _⟩ := hgood5 hu
            refine ⟨cs'', q1, fun s hs => ?_, fun hn s => ?_⟩
            · by_cases e : d.fS = s
              · rw [List.map_append]
                exact List.mem_append.2 (.inr (by simp [e]))
              · refine hK1 s (fun h0 => hs ?_)
                rw [q2 s, tot_one, if_neg e, h0, Int.add_zero]
                exact IntWalk.wrap64_in _ (by omega)
            · rw [q2 s, tot_one]
              have hrg := cntC_range hTr.nz s
              by_cases e : d.fS = s
              · rw [if_pos e, if_pos e, ← e, hnd hn, accT_out, IntWalk.wrap64_in _ (by omega)]
                · omega
                · rw [List.map_append, List.nodup_append] at hn
                  intro hm
                  exact hn.2.2 d.fS hm d.fS (by simp) rfl
              · rw [if_neg e, if_neg e, Int.add_zero, IntWalk.wrap64_in _ (by omega), hK2 hn s, if_neg e]
          · refine ⟨cs', hTB.below (hbad5 hu), hK1, fun hn => absurd (upd_one hdg.out.1 ⟨by omega, by omega⟩ ?_) hu⟩
            rw [hnd hn]
            omega
        have hB6 := hX5.set 3 (.int .i64 (rr - nm))
        have f6 := hX5.frozen 3
        have y3 := hX5.cellAt (i := 3) (v := .int .i64 rr) rfl
        have hcs : Chg (fun k => k = Bx) w5 (w5.setCell ⟨Bx, 3, none⟩ (.int .i64 (rr - nm))) := (Chg.refl (fun k => k = Bx) w5).setCell ⟨Bx, 3, none⟩ _ (fun _ => rfl)
        have hJ6 : TrJ W (w5.setCell ⟨Bx, 3, none⟩ (.int .i64 (rr - nm))) w.heap.size tb tx Bx x ops P0 d (rr - nm) := by
          obtain ⟨cs'', q1, q2, q3⟩ := htr5
          have htbl := hTr.blk.lt
          exact ⟨.inr (by omega), by omega, hB6, ⟨cs'', q1.chgU (U := Bx) hcs (fun k e => by omega) (by omega) (by omega), q2, q3⟩, hW5.setCell _ _ (fun _ => .inr rfl), hx5.chg hcs (fun e => by omega)⟩
        have hms : remB (w5.setCell ⟨Bx, 3, none⟩ (.int .i64 (rr - nm))) Bx < remB wr Bx := by
          rw [remB_blk hJ6.box, remB_blk hJ.box]
          omega
        have hwr : IntKind.i64.wrap (rr - nm) = rr - nm := IntWalk.i64_in _ (by omega)
        replace hJ6 := Lib.hid hJ6
        replace hms := Lib.hid hms
        clear hup hbB hBB hTr hK1 hK2 hl1 hTB hc5 hbad5 hgood5 hc15 hX5 hx5 hW5 htr5 hB6 hcs hJ x0 x1 x2 x3 xt hkl hn1 hd2 hr2
        gi_wp2
        try rw [hwr]
        go_roundw
        case rel => exact ⟨_, hJ6.out⟩
        case measure => exact hms.out
      · have dp : decide ((0 : Int) < rr) = false := by simpa using hpos
        have hfin : KeepsFrom w7.heap.size W wr ∧ KeepIt bq w7.heap.size W wr ∧ TrI2 w w7.heap.size w.heap.size tb tx x ops (pre ++ [c]) wr := by
          obtain ⟨cs', hTr, hK1, hK2⟩ := hJ.tr
          have hpm : (pre ++ [c]).map (·.1) = P0 ++ [d] := by rw [List.map_append, List.map_singleton, ← hd.out, ← hP0.out]
          refine ⟨keepsFromJ hJ.chg (fun k hk hkl => ?_), KeepIt.of_chg hJ.chg (fun k hk hkl => ?_), ⟨cs', hTr, by rw [hpm]; exact hK1, fun hn s => ?_⟩, hJ.tbx, h5.trans (hJ.chg.below h5.size (fun k hk e => ?_)), Nat.le_trans h6 hJ.chg.size⟩
          · rcases hk with rfl | rfl
            · exact .inl (by omega)
            · exact .inr ⟨_, _, _, hXW.out⟩
          · rcases hk with rfl | rfl
            · exact ⟨by omega, .inl (by omega)⟩
            · exact ⟨by omega, .inr ⟨_, _, _, hXW.out, by decide⟩⟩
          · rw [hpm] at hn ⊢
            rw [hK2 hn s, accT_snoc]
            congr 1
            rcases hJ.r1 with h | h
            · by_cases e : d.fS = s
              · rw [if_pos e, if_neg (by omega), h, Int.sub_self]
              · rw [if_neg e, if_neg (fun q => e q.1)]
            · obtain rfl : rr = 0 := by omega
              have := hJ.r2
              by_cases e : d.fS = s
              · rw [if_pos e]
                by_cases h0 : 0 < d.fN
                · rw [if_pos ⟨e, h0⟩]; omega
                · rw [if_neg (fun q => h0 q.2)]; omega
              · rw [if_neg e, if_neg (fun q => e q.1)]
          · rcases e with rfl | rfl
            · have := hTr.bmb; omega
            · omega
        replace hfin := Lib.hid hfin
        clear hJ x0 x1 x2 xt
        gi_wp2
        exact hfin.out
  case stop =>
    rintro D c pre W _ _ h _
    exact h.elim
  case done =>
    rintro D ys W hD hys ⟨⟨cs', h1, h2, h3⟩, h4, h5, h6⟩ hK
    have hMk := marks_one (B := w7.heap.size) (w := W) (D := D) hD hK
    have xt := h4.cellAt (i := 0) (v := .pointer (some ⟨tb, 0, none⟩)) rfl
    have hw7 := hb07.size
    have hfin : ∀ w' : World, Below w7.heap.size W w' → (Below w.heap.size w w' ∧ ∃ tb' x' cs2, Ending.returned (.pointer (some ⟨tb, 0, none⟩)) = .returned (.pointer (some ⟨tb', 0, none⟩)) ∧ Tr w' w.heap.size tb' x' ops cs2 ∧ cntC cs2 = posF (cntC ca) ∧ cs2.length ≤ N) := fun w' hb => by
      refine ⟨h5.trans (hb.mono (Nat.le_trans hw7 (Nat.le_refl _))), tb, x, cs', rfl, h1.chgU (U := w7.heap.size) (Chg.of_below hb) (fun k hk => hk) (by omega) (by omega), ?_, ?_⟩
      · funext s
        have hn : ((ys.map (·.1)).map (·.fS)).Nodup := hys.sort.imp (fun {a b} h e => by rw [e] at h; exact ltS_irrefl _ h)
        rw [h3 hn s, accT_all hys]
      · have := keys_len h1 h2
        have hl := hys.len
        rw [List.length_map] at this
        omega
    replace hfin := Lib.hid hfin
    clear hst hK h1 h2 h3 h5 hys
    dsimp only
    go_wp2_with fail
    refine leavesM_marks _ _ hMk h6 (fun w' hs => ?_)
    exact ⟨.pointer (some ⟨tb, 0, none⟩), by simp [results, Tryz.results19, go_sem], hfin.out w' hs.below⟩
end Go.Proofs.YtjmbafcpbagpdaaGreat

/- Gossip: All, where the caller's own row of pointstamps grows meanwhile. -/
namespace Go.Proofs.YtjmbafcpbagpdaaGreat
open Go.RowKit Go.Shelf Go.Maps
attribute [local go_sem] Oper.semAt_some
set_option linter.unusedVariables false
set_option linter.unusedSimpArgs false

/-- Block i holds the row of the slice in the box ab. -/
def OwnA (W : World) (ab i : Nat) : Prop := ∃ v, W.cell? ⟨ab, 0, none⟩ = some v ∧ v.ownBlock = some i
theorem OwnA.below {W W' : World} {ab i : Nat} (h : OwnA W' ab i) (hb : Below W.heap.size W W') (hab : ab < W.heap.size) : OwnA W ab i := by
  obtain ⟨v, h1, h2⟩ := h
  exact ⟨v, by rw [← hb.cell (p := ⟨ab, 0, none⟩) hab]; exact h1, h2⟩
/-- What a round keeps: the closure's box, and of what is newer maps and pointstamps, but for the row of the slice in the box ab. -/
structure KeepA (ab bq n0 : Nat) (W W' : World) : Prop where
  size : W.heap.size ≤ W'.heap.size
  same : ∀ (i : Nat) (o : Obj), W.heap[i]? = some o → (i = bq ∨ (n0 ≤ i ∧ (o.isWalk = true ∨ ((∃ cs f, o = .cells cs 59 f) ∧ ¬ OwnA W ab i)))) → W'.heap[i]? = some o
  ex : ∀ i, OwnA W' ab i → OwnA W ab i ∨ W.heap.size ≤ i
theorem KeepA.refl (ab bq n0 : Nat) (W : World) : KeepA ab bq n0 W W := ⟨Nat.le_refl _, fun _ _ h _ => h, fun _ h => .inl h⟩
theorem KeepA.trans {ab bq n0 : Nat} {A B C : World} (h : KeepA ab bq n0 A B) (k : KeepA ab bq n0 B C) : KeepA ab bq n0 A C :=
  ⟨Nat.le_trans h.size k.size, fun i o h1 h2 => by
    refine k.same i o (h.same i o h1 h2) ?_
    rcases h2 with h2 | ⟨h2, h3⟩
    · exact .inl h2
    · refine .inr ⟨h2, ?_⟩
      rcases h3 with h3 | ⟨h3, h4⟩
      · exact .inl h3
      · refine .inr ⟨h3, fun h5 => ?_⟩
        rcases h.ex i h5 with h6 | h6
        · exact h4 h6
        · have := (Array.getElem?_eq_some_iff.1 h1).1
          omega,
   fun i h1 => by
    rcases k.ex i h1 with h2 | h2
    · exact h.ex i h2
    · exact .inr (Nat.le_trans h.size h2)⟩
theorem KeepA.put {ab bq n0 l : Nat} {W : World} {o : Obj} (o' : Obj) (hb : bq < l) (hab : ab < l) (ho : W.heap[l]? = some o) (h1 : o.isCells = false) (h2 : o.isWalk = false) : KeepA ab bq n0 W (W.putObj l o') := by
  refine ⟨by simp [World.putObj], fun i u h3 h4 => ?_, fun i ⟨v, h3, h4⟩ => .inl ⟨v, ?_, h4⟩⟩
  · by_cases e : i = l
    · subst e
      rw [h3] at ho
      cases ho
      rcases h4 with h4 | ⟨_, h4 | ⟨⟨cs, f, h4⟩, _⟩⟩
      · omega
      · rw [h4] at h2; cases h2
      · rw [h4] at h1; cases h1
    · simpa [World.putObj, Ne.symm e] using h3
  · have : (W.putObj l o').heap[ab]? = W.heap[ab]? := by simp [World.putObj, show l ≠ ab by omega]
    rw [← World.cell?_of_block (a := ⟨ab, 0, none⟩) this]
    exact h3
end Go.Proofs.YtjmbafcpbagpdaaGreat
