/- Gossip: True. -/
import Derived.Test.YtjmbafcpbagpdaaJ11
import Derived.Test.YtjmbafcpbagpdaaPv
import Derived.Test.YtjmbafcpbagpdaaL10
import Derived.Test.YtjmbafcpbagpdaaPs
namespace Go.Proofs.Ytjmbafcpbagpdaa
open Go.RowKit Go.Shelf Go.Maps
attribute [local go_sem] Oper.semAt_some
set_option linter.unusedVariables false
set_option linter.unusedSimpArgs false

/-- What True has told so far. -/
def accT (pre : List TCount) (s : TStamp) : Int := totC (pre.filter fun c => decide (0 < c.fN)) s
theorem accT_snoc (pre : List TCount) (c : TCount) (s : TStamp) : accT (pre ++ [c]) s = accT pre s + if c.fS = s ∧ 0 < c.fN then c.fN else 0 := by
  unfold accT
  rw [List.filter_append, totC_append]
  congr 1
  by_cases h : 0 < c.fN
  · rw [List.filter_cons_of_pos (by simpa using h), List.filter_nil]
    unfold totC
    by_cases hs : c.fS = s <;> simp [hs, h]
  · rw [List.filter_cons_of_neg (by simpa using h), List.filter_nil, if_neg (by simp [h])]
    rfl
theorem tot_outJ {s : TStamp} : ∀ {l : List TCount}, s ∉ l.map (·.fS) → totC l s = 0 := fun h => tot_noneJ (fun d hd e => h (List.mem_map.2 ⟨d, hd, e⟩))
theorem accT_out {pre : List TCount} {s : TStamp} (h : s ∉ pre.map (·.fS)) : accT pre s = 0 :=
  tot_outJ (fun hm => h (by
    obtain ⟨d, hd, e⟩ := List.mem_map.1 hm
    exact List.mem_map.2 ⟨d, (List.mem_filter.1 hd).1, e⟩))
theorem accT_val : ∀ {L : List TCount}, (L.map (·.fS)).Nodup → ∀ c ∈ L, accT L c.fS = if 0 < c.fN then c.fN else 0
  | [], _, c, hc => by cases hc
  | d :: L, hn, c, hc => by
    rw [List.map_cons, List.nodup_cons] at hn
    have h1 : accT (d :: L) c.fS = (if d.fS = c.fS ∧ 0 < d.fN then d.fN else 0) + accT L c.fS := by
      unfold accT
      by_cases h : 0 < d.fN
      · rw [List.filter_cons_of_pos (by simpa using h), totC_cons]
        by_cases hs : d.fS = c.fS <;> simp [hs, h]
      · rw [List.filter_cons_of_neg (by simpa using h), if_neg (by simp [h]), Int.zero_add]
    rw [h1]
    rcases List.mem_cons.1 hc with rfl | hc
    · rw [accT_out hn.1, Int.add_zero]
      simp
    · rw [accT_val hn.2 c hc, if_neg, Int.zero_add]
      rintro ⟨e, _⟩
      exact hn.1 (by rw [e]; exact List.mem_map.2 ⟨c, hc, rfl⟩)
def posF (c : CF) : CF := fun s => if 0 < c s then c s else 0
theorem accT_all {cs : List (TStamp × Int)} {L : List TCount} (h : IsAll cs L) (s : TStamp) : accT L s = posF (cntC cs) s := by
  have hn : (L.map (·.fS)).Nodup := h.sort.imp (fun {a b} h e => by rw [e] at h; exact ltS_irrefl _ h)
  unfold posF
  by_cases hm : s ∈ L.map (·.fS)
  · obtain ⟨c, hc, rfl⟩ := List.mem_map.1 hm
    rw [accT_val hn c hc, h.val c hc]
  · rw [accT_out hm, cntC_out, if_neg (by omega)]
    intro p hp e
    exact hm (h.perm.mem_iff.2 (List.mem_map.2 ⟨p, hp, e⟩))
theorem nodup_lenJ : ∀ {l B : List TStamp}, l.Nodup → (∀ s ∈ l, s ∈ B) → l.length ≤ B.length
  | [], _, _, _ => Nat.zero_le _
  | a :: r, B, hn, hs => by
    rw [List.nodup_cons] at hn
    have ha := hs a (by simp)
    have := nodup_lenJ (l := r) (B := B.erase a) hn.2 (fun s hsr => by
      have hne : s ≠ a := fun e => by subst e; exact hn.1 hsr
      exact (List.mem_erase_of_ne hne).2 (hs s (by simp [hsr])))
    rw [List.length_erase_of_mem ha] at this
    have := List.length_pos_of_mem ha
    rw [List.length_cons]
    omega
theorem keys_len {w : World} {base tb : Nat} {x : TrX} {ops : List TOp} {cs : List (TStamp × Int)} (h : Tr w base tb x ops cs) {K : List TStamp} (hK : ∀ s, cntC cs s ≠ 0 → s ∈ K) : cs.length ≤ K.length := by
  have := nodup_lenJ h.nodup (fun s hs => hK s ((key_iff h.nodup h.nz s).1 hs))
  simpa using this
/-- Between two rounds. -/
def TrI2 (w0 : World) (lo B tb tx : Nat) (x : TrX) (ops : List TOp) {cs : List (TStamp × Int)} (pre : List (CountOf cs)) (W : World) : Prop :=
  (∃ cs', Tr W B tb x ops cs' ∧ (∀ s, cntC cs' s ≠ 0 → s ∈ (pre.map (·.1)).map (·.fS)) ∧ (((pre.map (·.1)).map (·.fS)).Nodup → ∀ s, cntC cs' s = accT (pre.map (·.1)) s)) ∧ Blk W tx #[.pointer (some ⟨tb, 0, none⟩)] 41 ∧ Below w0.heap.size w0 W ∧ lo ≤ W.heap.size
/-- What is left in the box of the round. -/
def remB (W : World) (Bx : Nat) : Nat := ((W.cell? ⟨Bx, 3, none⟩).map fun v => (intOf v).toNat).getD 0
theorem remB_blk {W : World} {Bx : Nat} {a b c : Value} {r : Int} (h : Blk W Bx #[a, b, c, .int .i64 r] 57) : remB W Bx = r.toNat := by
  unfold remB
  rw [h.cellAt (i := 3) (v := .int .i64 r) rfl]
  rfl

theorem keepsFromJ {S : Nat → Prop} {W W' : World} {B : Nat} (hc : Chg S W W') (hS : ∀ k, S k → k < W.heap.size → k < B ∨ ∃ cs T f, W.heap[k]? = some (.cells cs T f)) : KeepsFrom B W W' :=
  ⟨hc.size, fun k o hB hk ho => by
    have hlt := (Array.getElem?_eq_some_iff.1 hk).1
    rw [hc.block k hlt (fun s => by
      rcases hS k s hlt with h | ⟨cs, T, f, h⟩
      · omega
      · rw [h] at hk; cases hk; cases ho), hk]⟩
theorem upd_one {ops : List TOp} {cs : List (TStamp × Int)} {s : TStamp} {k : Int} (hg : goodS ops s.fLoc s.fT.fEpoch s.fT.fRound = true) (hk : 0 < k ∧ k ≤ 2147483648) (hc : -4611686018427387904 ≤ cntC cs s ∧ cntC cs s + k ≤ 4611686018427387904) : updE ops cs [⟨s, k⟩] = 0 := by
  unfold updE
  rw [if_neg, if_pos]
  · intro q hq
    have h1 := nxL_val hq
    obtain ⟨c, hc2, he⟩ := nxL_keys [⟨s, k⟩] 1 (Nat.le_refl _) q hq
    rw [List.mem_singleton] at hc2
    subst hc2
    have hs : q.1 = s := he.symm
    unfold passC
    have ht : totC [(⟨s, k⟩ : TCount)] s = k := by simp [totC]
    rw [h1, hs, ht, wrap_add', IntWalk.wrap64_in _ (by omega)]
    omega
  · simp only [List.all_cons, List.all_nil, Bool.and_true, Bool.not_eq_false]
    unfold okC
    dsimp only
    rw [hg, Bool.and_true, Bool.and_eq_true, decide_eq_true_eq, decide_eq_true_eq]
    omega
theorem tot_one (s t : TStamp) (k : Int) : totC [(⟨s, k⟩ : TCount)] t = if s = t then k else 0 := by simp [totC]
/-- Within a round: r of the number is still to be told. -/
structure TrJ (W wx : World) (B tb tx Bx : Nat) (x : TrX) (ops : List TOp) (P0 : List TCount) (d : TCount) (r : Int) : Prop where
  r1 : r = d.fN ∨ 0 ≤ r
  r2 : r ≤ d.fN
  box : Blk wx Bx #[.int .i64 d.fS.fLoc, .int .i64 d.fS.fT.fEpoch, .int .i64 d.fS.fT.fRound, .int .i64 r] 57
  tr : ∃ cs', Tr wx B tb x ops cs' ∧ (∀ s, cntC cs' s ≠ 0 → s ∈ (P0 ++ [d]).map (·.fS)) ∧ (((P0 ++ [d]).map (·.fS)).Nodup → ∀ s, cntC cs' s = accT P0 s + if d.fS = s then d.fN - r else 0)
  chg : Chg (fun k => k = x.mb ∨ k = Bx) W wx
  tbx : Blk wx tx #[.pointer (some ⟨tb, 0, none⟩)] 41

set_option maxRecDepth 100000 in
set_option maxHeartbeats 4000000 in
theorem true_any {A U gb N M : Nat} {X : Nat → Prop} {p : GP} {ops : List TOp} {m : GM} (w : World) (hG : Gos w A U X gb p ops m N M) (hpg : p.gops = ops) (hzi : ∀ o ∈ ops, o.fIn.length * 8 ≤ 140737488355328) (hN : N ≤ 1000000000) :
    Calls Try.prog 11 #[.pointer (some ⟨gb, 0, none⟩)] w fun e w' => Below w.heap.size w w' ∧ ∃ tb x cs', e = .returned (.pointer (some ⟨tb, 0, none⟩)) ∧ Tr w' w.heap.size tb x ops cs' ∧ cntC cs' = posF (m.c 0) ∧ cs'.length ≤ N := by
  obtain ⟨ao, cap, hgv, hs⟩ := hG.gr.sla
  rw [hpg] at hgv hs
  obtain ⟨ws, hB, hW⟩ := hG.blk
  obtain ⟨⟨ca, hTa, hca, hcl⟩, ht1, ht2⟩ := hG.trs 0 (Nat.zero_le _)
  have hok := hG.ok
  have hgw : gb < w.heap.size := hB.lt
  have c0 : w.cell? ⟨gb, 0, none⟩ = some (.slice ao ops.length cap) := by rw [← hgv]; exact hB.cellAt rfl
  have c1 : w.cell? ⟨gb, 1, none⟩ = some (.pointer (some ⟨(p.tp 0).tb, 0, none⟩)) := hB.cellAt rfl
  have hNw := new_ok ops ao cap w hs hok hzi
  rw [← hca]
  obtain ⟨n, hn⟩ : ∃ n, n = ops.length := ⟨_, rfl⟩
  rw [← hn] at c0 hNw
  obtain ⟨ta, hta⟩ : ∃ ta, ta = (p.tp 0).tb := ⟨_, rfl⟩
  rw [← hta] at c1 hTa
  obtain ⟨xa, hxa⟩ : ∃ xa, xa = (p.tp 0).x := ⟨_, rfl⟩
  obtain ⟨ba, hba⟩ : ∃ ba, ba = (p.tp 0).base := ⟨_, rfl⟩
  rw [← hxa, ← hba] at hTa
  replace hNw := Lib.hid hNw
  replace hok := Lib.hid hok
  have hcag : ∀ q ∈ ca, goodS ops q.1.fLoc q.1.fT.fEpoch q.1.fT.fRound = true ∧ (q.2 ≤ 4611686018427387904 ∧ -4611686018427387904 ≤ q.2) ∧ wfS q.1 := fun q hq => ⟨hTa.good q hq, ⟨(hTa.nz q hq).2.2, (hTa.nz q hq).2.1⟩, hTa.map.wf (encC q) (List.mem_map.2 ⟨q, hq, rfl⟩)⟩
  have hcan := hTa.nodup
  replace hcag := Lib.hid hcag
  replace hcan := Lib.hid hcan
  clear hB hW ht1 ht2 hG hca hta hxa hba hgv hn hs
  refine calls_of_marks Try.func11 rfl ?_
  simp only [Try.ntmps11, List.size_toArray, List.length_cons, List.length_nil, Nat.reduceAdd, Nat.reduceSub, Array.replicate_succ, Array.replicate_zero, List.push_toArray, List.append_toArray, List.nil_append, List.cons_append]
  go_wp2_with fail
  refine hNw.out.mono ?_
  rintro e w1 ⟨hb1, tb, x, rfl, hT1⟩
  have hTa1 := hTa.below hb1
  have c1' := (hb1.cell (p := ⟨gb, 1, none⟩) hgw).trans c1
  have htl := hT1.blk.lt
  have hml := hT1.map.lt
  dsimp only
  go_upto_region 4 with fail
  refine Code.wp_world ?_
  intro w2 hw2
  have hb12 : Below w1.heap.size w1 w2 := by rw [hw2]; exact (Below.refl _ _).alloc (Nat.le_refl _) _
  have hX2 : Blk w2 w1.heap.size #[.pointer (some ⟨tb, 0, none⟩)] 41 := by rw [hw2]; exact Blk.new _ _ _
  have c12 := (hb12.cell (p := ⟨gb, 1, none⟩) (World.lt_of_cell c1')).trans c1'
  have hT2 := hT1.below hb12
  have hTa2 := hTa1.below hb12
  have hb2 := hb1.trans (hb12.mono hb1.size)
  obtain ⟨tx, htx⟩ : ∃ tx, tx = w1.heap.size := ⟨_, rfl⟩
  rw [← htx] at hX2 htl hml ⊢
  have hxl : tx < w2.heap.size := hX2.lt
  replace htx := Lib.hid htx
  clear hw2 hNw hT1 hTa1 hTa c1' c1 c0 hb12 hb1
  go_wp2_with fail
  refine (tall_any ta w2).mono ?_
  rintro e w7 ⟨rfl, hw7⟩
  have hb7 : Below w2.heap.size w2 w7 := by rw [hw7]; exact (Below.refl _ _).alloc (Nat.le_refl _) _
  have hB7 : Blk w7 w2.heap.size #[.pointer (some ⟨ta, 0, none⟩)] 41 := by rw [hw7]; exact Blk.new _ _ _
  have hX7 := hX2.below hb7 hX2.lt
  have hT7 := hT2.below hb7
  have hb07 := hb2.trans (hb7.mono hb2.size)
  obtain ⟨bq, hbq⟩ : ∃ bq, bq = w2.heap.size := ⟨_, rfl⟩
  rw [← hbq] at hB7 hxl ⊢
  have hst := tall_stops (8 - 1) (by omega) bq ta w7 (hB7.cellAt rfl) (hTa2.below hb7) (by omega)
  have hbql : bq < w7.heap.size := hB7.lt
  replace hbq := Lib.hid hbq
  clear hw7 hX2 hT2 hTa2 hb7 hb2 c12
  dsimp only
  go_wp2_with fail
  refine (wpIn_wide (n := 8)).1 ?_
  refine wpIn_range_boxed (α := CountOf ca) rfl (by omega) (gf := 36) (lb := #[.pointer (some ⟨bq, 0, none⟩)]) rfl trivial (enters_of Try.func36 (by kernel_rfl) rfl)
    hst KeepIt.trans (fun W l o o' h1 h2 h3 h4 => KeepIt.put o' (by omega) h2 h3 h4) (Below.refl _ _) (fun _ => rfl)
    (TrI2 w w7.heap.size w.heap.size tb tx x ops) (fun _ _ _ => False) ?hI (fun _ _ _ _ _ h _ _ => h.elim) ⟨⟨[], hT7, fun s hs => absurd rfl hs, fun _ s => rfl⟩, hX7, hb07, Nat.le_refl _⟩
    (fun c Bx W => w7.heap.size ≤ Bx ∧ Blk W Bx (encK c.1).toArray 57) ?hPB
    (fun c Bx => { tmps := #[.pointer (some ⟨gb, 0, none⟩), undef, .pointer none, .pointer (some ⟨tx, 0, none⟩), .int IntKind.i64 0, .pointer (some ⟨Bx, 0, none⟩), undef, .pointer (some ⟨gb, 0, none⟩), .bool false, .tuple #[.pointer (some ⟨tb, 0, none⟩), .int IntKind.i64 0], .pointer (some ⟨gb, 0, none⟩), .pointer (some ⟨gb, 0, none⟩), .pointer (some ⟨gb, 0, none⟩), .agg #[.slice ao n cap], .tuple #[.pointer (some ⟨tb, 0, none⟩), .int IntKind.i64 0], .pointer (some ⟨tb, 0, none⟩), .int IntKind.i64 0, .pointer (some ⟨gb, 0, none⟩), .pointer (some ⟨gb, 0, none⟩), .pointer (some ⟨gb, 1, none⟩), .pointer (some ⟨ta, 0, none⟩), .func (.func 36) #[] #[.pointer (some ⟨bq, 0, none⟩)], mkK c.1, undef, undef, undef, undef, undef, undef, undef, undef, undef, undef, undef, undef, undef, undef, undef, undef, undef, undef, undef], defers := [] })
    ?assign ?body ?done ?stop
  case hI =>
    rintro s Xw Y row ⟨⟨cs', h1, h2, h3⟩, h4, h5, h6⟩ hg hr
    have hr' : ∀ r, row = some r → ∃ o : Obj, Xw.heap[r]? = some o ∧ o.isCells = false := fun r e => (hr r e).2
    have hw7 := hb07.size
    exact ⟨⟨cs', h1.chgU (U := w7.heap.size) (Chg.of_grown hg) (fun k e => (hr k e).1) (by omega) (by omega), h2, h3⟩, h4.grownN hg hr', h5.grown hg h5.size (fun g e => by have := (hr g e).1; omega), Nat.le_trans h6 hg.size⟩
  case hPB =>
    rintro c Bx s Xw Y row ⟨h1, h2⟩ hg hr
    exact ⟨h1, h2.grownN hg (fun r e => (hr r e).2)⟩
  case assign =>
    rintro l pre c W K ⟨⟨cs', h1, h2, h3⟩, h4, h5, h6⟩ hK
    obtain ⟨d, hd⟩ : ∃ d, d = c.1 := ⟨_, rfl⟩
    rw [← hd] at hK ⊢
    obtain ⟨⟨cl, ⟨ce, cr⟩⟩, cn⟩ := d
    dsimp only [mkK] at hK ⊢
    gi_wp2
    have hch : Chg (fun _ => False) W (W.alloc (.cells #[.int .i64 cl, .int .i64 ce, .int .i64 cr, .int .i64 cn] 57)) := (Chg.refl _ _).alloc _
    have hbw := below_allocJ W (.cells #[.int .i64 cl, .int .i64 ce, .int .i64 cr, .int .i64 cn] 57)
    exact hK _ _ (keepsFrom_of_chg hch (fun _ h _ => h.elim)) (KeepIt.of_chg hch (fun _ h _ => h.elim)) ⟨⟨cs', h1.below hbw, h2, h3⟩, h4.alloc _, h5.trans (hbw.mono h5.size), Nat.le_trans h6 hbw.size⟩ ⟨h6, Blk.new _ _ _⟩
  case body =>
    rintro l pre c Bx W hl ⟨r, hr⟩ ⟨⟨cs', h1, h2, h3⟩, h4, h5, h6⟩ ⟨hBx, hX⟩ hlt
    have hw7 := hb07.size
    obtain ⟨d, hd⟩ : ∃ d, d = c.1 := ⟨_, rfl⟩
    have hdx := c.2
    rw [← hd] at hX hdx ⊢
    have hdg : goodS ops d.fS.fLoc d.fS.fT.fEpoch d.fS.fT.fRound = true ∧ (d.fN ≤ 4611686018427387904 ∧ -4611686018427387904 ≤ d.fN) ∧ wfS d.fS := by
      obtain ⟨q, hq, he⟩ := List.mem_map.1 hdx.1
      have h := hcag.out q hq
      have hv : d.fN = q.2 := by
        rw [hdx.2, ← he]
        unfold cntC
        rw [getC_of_mem hcan.out (show (q.1, q.2) ∈ ca from hq)]
        rfl
      rw [← he, hv]
      exact h
    obtain ⟨P0, hP0⟩ : ∃ P0, P0 = pre.map (·.1) := ⟨_, rfl⟩
    rw [← hP0] at h2 h3
    have hpl : P0.length < N := by rw [hP0, List.length_map]; omega
    have hX0 : Blk W Bx #[.int .i64 d.fS.fLoc, .int .i64 d.fS.fT.fEpoch, .int .i64 d.fS.fT.fRound, .int .i64 d.fN] 57 := hX
    have hJ0 : TrJ W W w.heap.size tb tx Bx x ops P0 d d.fN := by
      refine ⟨.inl rfl, Int.le_refl _, hX0, ⟨cs', h1, fun s hs => ?_, fun hn s => ?_⟩, Chg.refl _ _, h4⟩
      · rw [List.map_append]
        exact List.mem_append.2 (.inl (h2 s hs))
      · rw [List.map_append] at hn
        rw [h3 (List.nodup_append.1 hn).1 s, Int.sub_self]
        split <;> simp
    have hBW : Bx < W.heap.size := hX0.lt
    have hXW := Lib.hid hX0
    have hxm : x.mb < W.heap.size := h1.map.lt
    have hxmB : x.mb ≠ Bx := by omega
    have hxtB : tx < Bx := by omega
    replace hdg := Lib.hid hdg
    replace hdx := Lib.hid hdx
    replace hd := Lib.hid hd
    replace hP0 := Lib.hid hP0
    clear h1 h2 h3 h4 hX hX0
    gi_wp2
    gi_loopw [6] (fun _ wx => ∃ r : Int, TrJ W wx w.heap.size tb tx Bx x ops P0 d r) (fun _ wx => remB wx Bx)
    case atStart => exact ⟨_, hJ0⟩
    case round =>
      clear hJ0
      obtain ⟨rr, hJ⟩ := hrel
      have x0 := hJ.box.cellAt (i := 0) (v := .int .i64 d.fS.fLoc) rfl
      have x1 := hJ.box.cellAt (i := 1) (v := .int .i64 d.fS.fT.fEpoch) rfl
      have x2 := hJ.box.cellAt (i := 2) (v := .int .i64 d.fS.fT.fRound) rfl
      have x3 := hJ.box.cellAt (i := 3) (v := .int .i64 rr) rfl
      have xt := hJ.tbx.cellAt (i := 0) (v := .pointer (some ⟨tb, 0, none⟩)) rfl
      by_cases hpos : 0 < rr
      · have dp : decide ((0 : Int) < rr) = true := by simpa using hpos
        obtain ⟨nm, hnm⟩ : ∃ nm, nm = min rr 2147483648 := ⟨_, rfl⟩
        have hn1 : 0 < nm ∧ nm ≤ 2147483648 ∧ nm ≤ rr := by rw [hnm]; omega
        gi_wp2
        rw [← hnm]
        replace hnm := Lib.hid hnm
        have hbB := below_allocJ wr (.cells #[.int .i64 d.fS.fLoc, .int .i64 d.fS.fT.fEpoch, .int .i64 d.fS.fT.fRound, .int .i64 nm] 57)
        have hBB := Blk.new wr #[.int .i64 d.fS.fLoc, .int .i64 d.fS.fT.fEpoch, .int .i64 d.fS.fT.fRound, .int .i64 nm] 57
        generalize wr.alloc (.cells #[.int .i64 d.fS.fLoc, .int .i64 d.fS.fT.fEpoch, .int .i64 d.fS.fT.fRound, .int .i64 nm] 57) = wB at hbB hBB ⊢
        obtain ⟨cs', hTr, hK1, hK2⟩ := hJ.tr
        have hl1 : SlA wB.heap.size 4 (RCount wB.heap.size) wB (some ⟨wr.heap.size, 0, none⟩) 1 [⟨d.fS, nm⟩] := by
          refine SlA.of_blk hBB hBB.lt (Nat.le_refl 1) (by unfold maxLen; omega) ?_
          intro i hi
          match i, hi with
          | 0, _ => exact ⟨[.int .i64 d.fS.fLoc, .int .i64 d.fS.fT.fEpoch, .int .i64 d.fS.fT.fRound, .int .i64 nm], rfl, fun j hj => (match j, hj with | 0, _ | 1, _ | 2, _ | 3, _ => rfl), rfl, hdg.out.2.2.1, hdg.out.2.2.2.1, hdg.out.2.2.2.2, by
              have h10 := wrap64_wf nm
              rwa [IntWalk.wrap64_in _ (by omega)] at h10⟩
        have hTB := hTr.below hbB
        have hkl := keys_len hTr hK1
        rw [List.length_map, List.length_append, List.length_singleton] at hkl
        have hup := update_any [⟨d.fS, nm⟩] _ 1 wB hTB hl1 (by simp) (by simp; omega)
        have hd2 := hdg.out.2.1
        have hr2 := hJ.r2
        have hmlr : x.mb < wr.heap.size := hTr.map.lt
        refine ⟨trivial, CallsIn.mono (CallsIn.inRound l (callsIn_wide.2 hup)) ?_⟩
        rintro e w5 ⟨rfl, hc5, hbad5, hgood5⟩
        have hc15 : Chg (fun k => k = x.mb) wr w5 := ((Chg.of_below hbB).mono (fun k hk e => absurd hk (by omega))).trans hc5
        have hX5 := hJ.box.chg hc15 (fun e => hxmB e.symm)
        have hx5 := hJ.tbx.chg hc15 (fun e => by omega)
        have hW5 : Chg (fun k => k = x.mb ∨ k = Bx) W w5 := hJ.chg.trans (hc15.mono (fun k _ e => .inl e))
        have htr5 : ∃ cs'', Tr w5 w.heap.size tb x ops cs'' ∧ (∀ s, cntC cs'' s ≠ 0 → s ∈ (P0 ++ [d]).map (·.fS)) ∧ (((P0 ++ [d]).map (·.fS)).Nodup → ∀ s, cntC cs'' s = accT P0 s + if d.fS = s then d.fN - (rr - nm) else 0) := by
          have hnd : ((P0 ++ [d]).map (·.fS)).Nodup → cntC cs' d.fS = d.fN - rr := fun hn => by
            rw [hK2 hn d.fS, if_pos rfl, accT_out, Int.zero_add]
            rw [List.map_append, List.nodup_append] at hn
            intro hm
            exact hn.2.2 d.fS hm d.fS (by simp) rfl
          by_cases hu : updE ops cs' [⟨d.fS, nm⟩] = 0
          · obtain ⟨cs'', q1, q2, _⟩ := hgood5 hu
            refine ⟨cs'', q1, fun s hs => ?_, fun hn s => ?_⟩
            · by_cases e : d.fS = s
              · rw [List.map_append]
                exact List.mem_append.2 (.inr (by simp [e]))
              · refine hK1 s (fun h0 => hs ?_)
                rw [q2 s, tot_one, if_neg e, h0, Int.add_zero]
                exact IntWalk.wrap64_in _ (by omega)
            · rw [q2 s, tot_one]
              have hrg := cntC_range hTr.nz s
              by_cases e : d.fS = s
              · rw [if_pos e, if_pos e, ← e, hnd hn, accT_out, IntWalk.wrap64_in _ (by omega)]
                · omega
                · rw [List.map_append, List.nodup_append] at hn
                  intro hm
                  exact hn.2.2 d.fS hm d.fS (by simp) rfl
              · rw [if_neg e, if_neg e, Int.add_zero, IntWalk.wrap64_in _ (by omega), hK2 hn s, if_neg e]
          · refine ⟨cs', hTB.below (hbad5 hu), hK1, fun hn => absurd (upd_one hdg.out.1 ⟨by omega, by omega⟩ ?_) hu⟩
            rw [hnd hn]
            omega
        have hB6 := hX5.set 3 (.int .i64 (rr - nm))
        have f6 := hX5.frozen 3
        have y3 := hX5.cellAt (i := 3) (v := .int .i64 rr) rfl
        have hcs : Chg (fun k => k = Bx) w5 (w5.setCell ⟨Bx, 3, none⟩ (.int .i64 (rr - nm))) := (Chg.refl (fun k => k = Bx) w5).setCell ⟨Bx, 3, none⟩ _ (fun _ => rfl)
        have hJ6 : TrJ W (w5.setCell ⟨Bx, 3, none⟩ (.int .i64 (rr - nm))) w.heap.size tb tx Bx x ops P0 d (rr - nm) := by
          obtain ⟨cs'', q1, q2, q3⟩ := htr5
          have htbl := hTr.blk.lt
          exact ⟨.inr (by omega), by omega, hB6, ⟨cs'', q1.chgU (U := Bx) hcs (fun k e => by omega) (by omega) (by omega), q2, q3⟩, hW5.setCell _ _ (fun _ => .inr rfl), hx5.chg hcs (fun e => by omega)⟩
        have hms : remB (w5.setCell ⟨Bx, 3, none⟩ (.int .i64 (rr - nm))) Bx < remB wr Bx := by
          rw [remB_blk hJ6.box, remB_blk hJ.box]
          omega
        have hwr : IntKind.i64.wrap (rr - nm) = rr - nm := IntWalk.i64_in _ (by omega)
        replace hJ6 := Lib.hid hJ6
        replace hms := Lib.hid hms
        clear hup hbB hBB hTr hK1 hK2 hl1 hTB hc5 hbad5 hgood5 hc15 hX5 hx5 hW5 htr5 hB6 hcs hJ x0 x1 x2 x3 xt hkl hn1 hd2 hr2
        gi_wp2
        try rw [hwr]
        go_roundw
        case rel => exact ⟨_, hJ6.out⟩
        case measure => exact hms.out
      · have dp : decide ((0 : Int) < rr) = false := by simpa using hpos
        have hfin : KeepsFrom w7.heap.size W wr ∧ KeepIt bq w7.heap.size W wr ∧ TrI2 w w7.heap.size w.heap.size tb tx x ops (pre ++ [c]) wr := by
          obtain ⟨cs', hTr, hK1, hK2⟩ := hJ.tr
          have hpm : (pre ++ [c]).map (·.1) = P0 ++ [d] := by rw [List.map_append, List.map_singleton, ← hd.out, ← hP0.out]
          refine ⟨keepsFromJ hJ.chg (fun k hk hkl => ?_), KeepIt.of_chg hJ.chg (fun k hk hkl => ?_), ⟨cs', hTr, by rw [hpm]; exact hK1, fun hn s => ?_⟩, hJ.tbx, h5.trans (hJ.chg.below h5.size (fun k hk e => ?_)), Nat.le_trans h6 hJ.chg.size⟩
          · rcases hk with rfl | rfl
            · exact .inl (by omega)
            · exact .inr ⟨_, _, _, hXW.out⟩
          · rcases hk with rfl | rfl
            · exact ⟨by omega, .inl (by omega)⟩
            · exact ⟨by omega, .inr ⟨_, _, _, hXW.out, by decide⟩⟩
          · rw [hpm] at hn ⊢
            rw [hK2 hn s, accT_snoc]
            congr 1
            rcases hJ.r1 with h | h
            · by_cases e : d.fS = s
              · rw [if_pos e, if_neg (by omega), h, Int.sub_self]
              · rw [if_neg e, if_neg (fun q => e q.1)]
            · obtain rfl : rr = 0 := by omega
              have := hJ.r2
              by_cases e : d.fS = s
              · rw [if_pos e]
                by_cases h0 : 0 < d.fN
                · rw [if_pos ⟨e, h0⟩]; omega
                · rw [if_neg (fun q => h0 q.2)]; omega
              · rw [if_neg e, if_neg (fun q => e q.1)]
          · rcases e with rfl | rfl
            · have := hTr.bmb; omega
            · omega
        replace hfin := Lib.hid hfin
        clear hJ x0 x1 x2 xt
        gi_wp2
        exact hfin.out
  case stop =>
    rintro D c pre W _ _ h _
    exact h.elim
  case done =>
    rintro D ys W hD hys ⟨⟨cs', h1, h2, h3⟩, h4, h5, h6⟩ hK
    have hMk := marks_one (B := w7.heap.size) (w := W) (D := D) hD hK
    have xt := h4.cellAt (i := 0) (v := .pointer (some ⟨tb, 0, none⟩)) rfl
    have hw7 := hb07.size
    have hfin : ∀ w' : World, Below w7.heap.size W w' → (Below w.heap.size w w' ∧ ∃ tb' x' cs2, Ending.returned (.pointer (some ⟨tb, 0, none⟩)) = .returned (.pointer (some ⟨tb', 0, none⟩)) ∧ Tr w' w.heap.size tb' x' ops cs2 ∧ cntC cs2 = posF (cntC ca) ∧ cs2.length ≤ N) := fun w' hb => by
      refine ⟨h5.trans (hb.mono (Nat.le_trans hw7 (Nat.le_refl _))), tb, x, cs', rfl, h1.chgU (U := w7.heap.size) (Chg.of_below hb) (fun k hk => hk) (by omega) (by omega), ?_, ?_⟩
      · funext s
        have hn : ((ys.map (·.1)).map (·.fS)).Nodup := hys.sort.imp (fun {a b} h e => by rw [e] at h; exact ltS_irrefl _ h)
        rw [h3 hn s, accT_all hys]
      · have := keys_len h1 h2
        have hl := hys.len
        rw [List.length_map] at this
        omega
    replace hfin := Lib.hid hfin
    clear hst hK h1 h2 h3 h5 hys
    dsimp only
    go_wp2_with fail
    refine leavesM_marks _ _ hMk h6 (fun w' hs => ?_)
    exact ⟨.pointer (some ⟨tb, 0, none⟩), by simp [results, Try.results11, go_sem], hfin.out w' hs.below⟩
end Go.Proofs.Ytjmbafcpbagpdaa

/- Gossip: All, where the caller's own row of pointstamps grows meanwhile. -/
namespace Go.Proofs.Ytjmbafcpbagpdaa
open Go.RowKit Go.Shelf Go.Maps
attribute [local go_sem] Oper.semAt_some
set_option linter.unusedVariables false
set_option linter.unusedSimpArgs false

/-- Block i holds the row of the slice in the box ab. -/
def OwnA (W : World) (ab i : Nat) : Prop := ∃ v, W.cell? ⟨ab, 0, none⟩ = some v ∧ v.ownBlock = some i
theorem OwnA.below {W W' : World} {ab i : Nat} (h : OwnA W' ab i) (hb : Below W.heap.size W W') (hab : ab < W.heap.size) : OwnA W ab i := by
  obtain ⟨v, h1, h2⟩ := h
  exact ⟨v, by rw [← hb.cell (p := ⟨ab, 0, none⟩) hab]; exact h1, h2⟩
/-- What a round keeps: the closure's box, and of what is newer maps and pointstamps, but for the row of the slice in the box ab. -/
structure KeepA (ab bq n0 : Nat) (W W' : World) : Prop where
  size : W.heap.size ≤ W'.heap.size
  same : ∀ (i : Nat) (o : Obj), W.heap[i]? = some o → (i = bq ∨ (n0 ≤ i ∧ (o.isWalk = true ∨ ((∃ cs f, o = .cells cs 47 f) ∧ ¬ OwnA W ab i)))) → W'.heap[i]? = some o
  ex : ∀ i, OwnA W' ab i → OwnA W ab i ∨ W.heap.size ≤ i
theorem KeepA.refl (ab bq n0 : Nat) (W : World) : KeepA ab bq n0 W W := ⟨Nat.le_refl _, fun _ _ h _ => h, fun _ h => .inl h⟩
theorem KeepA.trans {ab bq n0 : Nat} {A B C : World} (h : KeepA ab bq n0 A B) (k : KeepA ab bq n0 B C) : KeepA ab bq n0 A C :=
  ⟨Nat.le_trans h.size k.size, fun i o h1 h2 => by
    refine k.same i o (h.same i o h1 h2) ?_
    rcases h2 with h2 | ⟨h2, h3⟩
    · exact .inl h2
    · refine .inr ⟨h2, ?_⟩
      rcases h3 with h3 | ⟨h3, h4⟩
      · exact .inl h3
      · refine .inr ⟨h3, fun h5 => ?_⟩
        rcases h.ex i h5 with h6 | h6
        · exact h4 h6
        · have := (Array.getElem?_eq_some_iff.1 h1).1
          omega,
   fun i h1 => by
    rcases k.ex i h1 with h2 | h2
    · exact h.ex i h2
    · exact .inr (Nat.le_trans h.size h2)⟩
theorem KeepA.put {ab bq n0 l : Nat} {W : World} {o : Obj} (o' : Obj) (hb : bq < l) (hab : ab < l) (ho : W.heap[l]? = some o) (h1 : o.isCells = false) (h2 : o.isWalk = false) : KeepA ab bq n0 W (W.putObj l o') := by
  refine ⟨by simp [World.putObj], fun i u h3 h4 => ?_, fun i ⟨v, h3, h4⟩ => .inl ⟨v, ?_, h4⟩⟩
  · by_cases e : i = l
    · subst e
      rw [h3] at ho
      cases ho
      rcases h4 with h4 | ⟨_, h4 | ⟨⟨cs, f, h4⟩, _⟩⟩
      · omega
      · rw [h4] at h2; cases h2
      · rw [h4] at h1; cases h1
    · simpa [World.putObj, Ne.symm e] using h3
  · have : (W.putObj l o').heap[ab]? = W.heap[ab]? := by simp [World.putObj, show l ≠ ab by omega]
    rw [← World.cell?_of_block (a := ⟨ab, 0, none⟩) this]
    exact h3
theorem mapL_keepA {ab bq n0 : Nat} {W W' : World} {b : Nat} {es : List (TStamp × Value)} (h : MapL Try.prog 47 klS wfS W b es) (hk : KeepA ab bq n0 W W') (hb : n0 ≤ b) : MapL Try.prog 47 klS wfS W' b es :=
  h.same (fun o h1 h2 => hk.same b o h1 (.inr ⟨hb, .inl h2⟩))
theorem own_keepA {ab bq n0 base : Nat} {W W' : World} {v : Value} {xs : List TStamp} (h : OwnL encS W base 47 3 v xs) (hk : KeepA ab bq n0 W W') (hb : n0 ≤ base) (hno : ∀ g, v.ownBlock = some g → ¬ OwnA W ab g) : OwnL encS W' base 47 3 v xs := by
  rcases h.form with ⟨e1, e2⟩ | ⟨g, cap, cells, e1, h2, h3, h4, h5, h6, h7, h8⟩
  · subst e1; subst e2; exact OwnL.nil _ _ _ _ _
  · have hb2 : Blk W' g cells 47 := hk.same g _ h2 (.inr ⟨Nat.le_trans hb h6, .inr ⟨⟨_, _, rfl⟩, hno g (by rw [e1]; rfl)⟩⟩)
    refine ⟨h.1, .inr ⟨g, cap, cells, e1, h6, hb2, h3, h4, h5, h8⟩⟩

set_option maxRecDepth 100000 in
set_option maxHeartbeats 4000000 in
theorem tall_stopsA (n ab : Nat) (hn : 1 ≤ n) (bq tb : Nat) {base : Nat} {x : TrX} {ops : List TOp} {cs : List (TStamp × Int)} (w : World) (hbq : w.cell? ⟨bq, 0, none⟩ = some (.pointer (some ⟨tb, 0, none⟩))) (hT : Tr w base tb x ops cs) (hz : (cs.length + 1) * 24 ≤ 140737488355328) (hab : ab < w.heap.size) (hao : ∀ i, OwnA w ab i → i < w.heap.size) :
    SeqStopsK Fence.wide n Try.prog 36 #[.pointer (some ⟨bq, 0, none⟩)] (fun c : CountOf cs => #[mkK c.1]) (KeepA ab bq w.heap.size) (fun ys => IsAll cs (ys.map (·.1))) (fun pre => ∃ L, IsAll cs L ∧ pre.map (·.1) <+: L) cs.length w := fun l J Jx W hW hJ hJx hY h0 => by
  have hbq' := (hW.cell (World.lt_of_cell hbq)).trans hbq
  have haoW : ∀ i, OwnA W ab i → i < w.heap.size := fun i ⟨v, h1, h2⟩ => hao i ⟨v, by rw [← hW.cell (p := ⟨ab, 0, none⟩) hab]; exact h1, h2⟩
  have habW : ab < W.heap.size := Nat.lt_of_lt_of_le hab hW.size
  have hT' := hT.below hW
  have hsz := hW.size
  obtain ⟨n0, hn0⟩ : ∃ n0, n0 = w.heap.size := ⟨_, rfl⟩
  have hM := hT'.map
  have c2 := hT'.blk.cellAt (i := 2) (v := .map (some x.mb)) rfl
  rw [← hn0] at hsz hY haoW hab
  obtain ⟨n1, hn1⟩ : ∃ n1, n1 = W.heap.size := ⟨_, rfl⟩
  rw [← hn1] at hJ hJx
  have hel : (entC cs).length = cs.length := by simp [entC]
  have hclo := clone_any x.mb (entC cs) W hM
  rw [← hn1] at hclo hsz
  replace hJ := Lib.hid hJ
  replace hJx := Lib.hid hJx
  replace hY := Lib.hid hY
  replace h0 := Lib.hid h0
  replace hclo := Lib.hid hclo
  replace hn1 := Lib.hid hn1
  replace haoW := Lib.hid haoW
  clear hbq hT hW hn0 hao
  refine callsIn_of_wp Try.func36 rfl trivial ?_ rfl
  simp only [Try.ntmps36, List.size_toArray, List.length_cons, List.length_nil, Nat.reduceAdd, Nat.reduceSub, Array.replicate_succ, Array.replicate_zero, List.push_toArray, List.append_toArray, List.nil_append, List.cons_append]
  refine wpIn_wide.2 ?_
  go_wp2_with fail
  refine hclo.out.mono ?_
  rintro e w1 ⟨rfl, hM1, hb1⟩
  have hJ1 := hJ.out.below h0.out (hn1.out ▸ hb1)
  have hz1 : n1 < w1.heap.size := hM1.lt
  have hao1 : ∀ i, OwnA w1 ab i → i < n0 := fun i h => haoW.out i (h.below (hn1.out ▸ hb1) habW)
  have hab1 : ab < w1.heap.size := Nat.lt_of_lt_of_le habW (hn1.out ▸ hb1.size)
  have hn01 : n0 ≤ n1 := hsz
  clear hclo h0 hM c2 hbq' hT' hb1 hsz
  dsimp only
  go_wp2_with fail
  refine (keysG_any n1 w1).mono ?_
  rintro e w2 ⟨rfl, hw2⟩
  have hb2 : Below w1.heap.size w1 w2 := by rw [hw2]; exact (Below.refl _ _).alloc (Nat.le_refl _) _
  have hB2 : Blk w2 w1.heap.size #[.map (some n1)] 86 := by rw [hw2]; exact Blk.new _ _ _
  have hJ2 := hJ.out.below hJ1 hb2
  have hM2 := hM1.below hb2 hz1
  have hso := sortedKeys_any w1.heap.size n1 (entC cs) w2 (hB2.cellAt rfl) hM2 (by rw [hel]; exact hz)
  have hz2 : n1 < w2.heap.size := Nat.lt_of_lt_of_le hz1 hb2.size
  have hao2 : ∀ i, OwnA w2 ab i → i < n0 := fun i h => hao1 i (h.below hb2 hab1)
  have hab2 : ab < w2.heap.size := Nat.lt_of_lt_of_le hab1 hb2.size
  replace hso := Lib.hid hso
  clear hw2 hb2 hB2 hJ1 hM1
  dsimp only
  go_wp2_with fail
  refine hso.out.mono ?_
  rintro e w3 ⟨v, ys, rfl, hown, hperm, hsort, hb3⟩
  have hJ3 := hJ.out.below hJ2 hb3
  have hM3 := hM2.below hb3 hM2.lt
  have hown3 := hown.base_le (base' := n1 + 1) hz2
  have hn3 : n1 < w3.heap.size := Nat.lt_of_lt_of_le hz2 hb3.size
  have hao3 : ∀ i, OwnA w3 ab i → i < n0 := fun i h => hao2 i (h.below hb3 hab2)
  have hab3 : ab < w3.heap.size := Nat.lt_of_lt_of_le hab2 hb3.size
  have hfst : (entC cs).map Prod.fst = cs.map Prod.fst := by unfold entC; rw [List.map_map]; rfl
  rw [hfst] at hperm
  have hmem : ∀ s ∈ ys, s ∈ cs.map Prod.fst := fun s hs => hperm.mem_iff.1 hs
  obtain ⟨L, hL⟩ : ∃ L : List (CountOf cs), L = ys.pmap (fun s h => (⟨⟨s, cntC cs s⟩, h, rfl⟩ : CountOf cs)) hmem := ⟨_, rfl⟩
  have hLl : L.length = ys.length := by rw [hL, List.length_pmap]
  have hLg : ∀ i (h1 : i < L.length) (h2 : i < ys.length), (L[i]).1 = ⟨ys[i], cntC cs ys[i]⟩ := fun i h1 h2 => by
    subst hL
    rw [List.getElem_pmap]
  have hLm : (L.map (·.1)).map (·.fS) = ys := by
    rw [hL, List.map_pmap, List.map_pmap]
    exact List.pmap_eq_self.2 (fun _ _ => rfl)
  have hA : IsAll cs (L.map (·.1)) := ⟨by rw [hLm]; exact hperm, by rw [hLm]; exact hsort, fun c hc => by
    obtain ⟨d, _, rfl⟩ := List.mem_map.1 hc
    exact d.2.2⟩
  obtain ⟨m, hm⟩ : ∃ m, m = ys.length := ⟨_, rfl⟩
  have hmc : m = cs.length := by rw [hm, hperm.length_eq, List.length_map]
  have hm63 : m ≤ 9223372036854775807 := by omega
  obtain ⟨av, cv, hv, _, _, _⟩ := hown3.slice
  rw [← hm] at hv hLl
  subst hv
  have hno3 : Hid (∀ g, (Value.slice av m cv).ownBlock = some g → ¬ OwnA w3 ab g) := Lib.hid (fun g h1 h2 => by have := hao3 g h2; have := (hown3.lt g h1).1; omega)
  replace hA := Lib.hid hA
  replace hLg := Lib.hid hLg
  replace hm := Lib.hid hm
  replace hmc := Lib.hid hmc
  replace hLl := Lib.hid hLl
  replace hJ3 := Lib.hid hJ3
  clear hso hJ2 hM2 hown hperm hsort hb3 hfst hLm hL hz1 hz2 hel
  dsimp only
  go_wp2_with fail
  go_loopw [17] (fun x17 wr => ∃ i : Nat, i ≤ m ∧ x17 = .int .i64 i ∧ Hid (J (L.take i) wr) ∧ MapL Try.prog 47 klS wfS wr n1 (entC cs) ∧ OwnL encS wr (n1 + 1) 47 3 (.slice av m cv) ys ∧ n1 < wr.heap.size ∧ ab < wr.heap.size ∧ Hid (∀ g, (Value.slice av m cv).ownBlock = some g → ¬ OwnA wr ab g)) (fun x17 _ => m - (intOf x17).toNat)
  case atStart => exact ⟨0, Nat.zero_le _, rfl, hJ3, hM3, hown3, hn3, hab3, hno3⟩
  case round =>
    clear hJ3 hM3 hown3 hn3
    obtain ⟨i, him, rfl, hJi, hMi, hOi, hzi, habi, hnoi⟩ := hrel
    by_cases hi : i < m
    · have hiy : i < ys.length := by rw [← hm.out]; exact hi
      have hiL : i < L.length := by rw [hLl.out]; exact hi
      obtain ⟨av2, cv2, hv, hsl⟩ := hOi.sla (E := fun _ cs x => cs = encS x) encS_len (fun _ _ => rfl)
      rw [← hm.out] at hv
      simp only [Value.slice.injEq] at hv
      obtain ⟨rfl, hx9, rfl⟩ := hv
      clear hx9
      obtain ⟨b2, off2, rfl, hb2l, _⟩ := hsl.addr (by omega)
      obtain ⟨s, hs⟩ : ∃ s, ys[i] = s := ⟨_, rfl⟩
      have hLi := hLg.out i hiL hiy
      rw [hs] at hLi
      have hwf : wfS s := by
        have h1 : s ∈ cs.map Prod.fst := by
          have := (L[i]).2.1
          rw [hLi] at this
          exact this
        obtain ⟨p, hp, rfl⟩ := List.mem_map.1 h1
        exact hMi.wf (encC p) (List.mem_map.2 ⟨p, hp, rfl⟩)
      obtain ⟨cs5, h5, h6, h7⟩ := hsl.get i hiy
      rw [hs] at h7
      subst h7
      have g0 : wr.cell? ⟨b2, off2 + i * 3, none⟩ = some (.int .i64 s.fLoc) := by have := h6 0 (by omega); simpa [encS] using this
      have g1 : wr.cell? ⟨b2, off2 + i * 3 + 1, none⟩ = some (.int .i64 s.fT.fEpoch) := by have := h6 1 (by omega); simpa [encS, Nat.add_assoc] using this
      have g2 : wr.cell? ⟨b2, off2 + i * 3 + 2, none⟩ = some (.int .i64 s.fT.fRound) := by have := h6 2 (by omega); simpa [encS, Nat.add_assoc] using this
      have htk : L.take (i + 1) = L.take i ++ [L[i]] := List.take_succ_eq_append_getElem hiL
      have hpl : (L.take i).length < cs.length := by rw [List.length_take, ← hmc.out]; omega
      replace htk := Lib.hid htk
      replace hLi := Lib.hid hLi
      clear hs h5 h6 hsl
      go_upto_region 5 with fail
      refine Code.wp_world ?_
      intro w4 hw4
      have hb4 : Below wr.heap.size wr w4 := by rw [hw4]; exact (Below.refl _ _).alloc (Nat.le_refl _) _
      have hB4 : Blk w4 wr.heap.size #[.int .i64 s.fLoc, .int .i64 s.fT.fEpoch, .int .i64 s.fT.fRound] 47 := by rw [hw4]; exact Blk.new _ _ _
      have hJ4 := hJ.out.below hJi.out hb4
      have hM4 := hMi.below hb4 hMi.lt
      have hO4 := hOi.below hb4 (Nat.le_refl _)
      have hz4 : n1 < w4.heap.size := Nat.lt_of_lt_of_le hzi hb4.size
      have hno4 : Hid (∀ g, (Value.slice (some ⟨b2, off2, none⟩) m cv).ownBlock = some g → ¬ OwnA w4 ab g) := Lib.hid (fun g h1 h2 => hnoi.out g h1 (h2.below hb4 habi))
      have hab4 : ab < w4.heap.size := Nat.lt_of_lt_of_le habi hb4.size
      obtain ⟨z, hz⟩ : ∃ z, z = wr.heap.size := ⟨_, rfl⟩
      rw [← hz] at hB4 ⊢
      clear hw4 hb4 hJi hMi hOi hzi g0 g1 g2 hz
      have s0 := hB4.cellAt (i := 0) (v := .int .i64 s.fLoc) rfl
      have s1 := hB4.cellAt (i := 1) (v := .int .i64 s.fT.fEpoch) rfl
      have s2 := hB4.cellAt (i := 2) (v := .int .i64 s.fT.fRound) rfl
      refine (wpIn_wide (n := n)).1 ?_
      refine wpIn_region_treeO (fun wx => wx.cell? ⟨z, 0, none⟩ = some (.int .i64 s.fLoc) ∧ wx.cell? ⟨z, 1, none⟩ = some (.int .i64 s.fT.fEpoch) ∧ wx.cell? ⟨z, 2, none⟩ = some (.int .i64 s.fT.fRound)) 6 8 (by kernel_rfl) rfl (by kernel_rfl) (fun d _ _ _ _ h => by cases d <;> exact h) ⟨s0, s1, s2⟩ (fun opz T hOps hT hTok hHeld => ?_)
      have hMd : MapL Try.prog 47 klS wfS w4.drew n1 (entC cs) := hM4.chg ((Chg.refl (fun _ => False) w4).drew) (fun h => h)
      have hOd : OwnL encS w4.drew (n1 + 1) 47 3 (.slice (some ⟨b2, off2, none⟩) m cv) ys := hO4.chg ((Chg.refl (fun _ => False) w4).drew) (fun _ _ h => h)
      have hJd := hJ.out.below hJ4 ((Below.refl w4.heap.size w4).drew)
      have hzd : n1 < w4.drew.heap.size := hz4
      have hnod : Hid (∀ g, (Value.slice (some ⟨b2, off2, none⟩) m cv).ownBlock = some g → ¬ OwnA w4.drew ab g) := hno4
      have habd : ab < w4.drew.heap.size := hab4
      refine wpTree_world ?_
      intro w5 hw5
      rw [← hw5] at hMd hOd hJd hzd hHeld hnod habd
      clear hw5 s0 s1 s2 hB4 hJ4 hM4 hO4 hz4
      (refine wpTree_q 0 hTok hOps (by kernel_rfl) rfl rfl ⟨?_, ?_, ?_⟩; rotate_left; (focus (intro wx hSx; (try dsimp only at hSx); go_simp; (try with_reducible rfl))); (simp only [Act.put, List.setIfInBounds_toArray, List.set_cons_zero, List.set_cons_succ]))
      (refine wpTree_q 1 hTok hOps (by kernel_rfl) rfl rfl ⟨?_, ?_, ?_⟩; rotate_left; (focus (intro wx hSx; (try dsimp only at hSx); go_simp; (try with_reducible rfl))); (simp only [Act.put, List.setIfInBounds_toArray, List.set_cons_zero, List.set_cons_succ]))
      (refine wpTree_q 2 hTok hOps (by kernel_rfl) rfl rfl ⟨?_, ?_, ?_⟩; rotate_left; (focus (intro wx hSx; (try dsimp only at hSx); go_simp; (try with_reducible rfl))); (simp only [Act.put, List.setIfInBounds_toArray, List.set_cons_zero, List.set_cons_succ]))
      (refine wpTree_q 3 hTok hOps (by kernel_rfl) rfl rfl ⟨?_, ?_, ?_⟩; rotate_left; (focus (intro wx hSx; (try dsimp only at hSx); go_simp; (try with_reducible rfl))); (simp only [Act.put, List.setIfInBounds_toArray, List.set_cons_zero, List.set_cons_succ]))
      refine wpTree_1 4 hOps (by kernel_rfl) (by decide) rfl (fun K' hK => ?_)
      refine step_lookupL rfl _ _ _ false rfl keyS hMd Try.underlying86 (zeroInt _) hwf rfl rfl ?_
      simp only [Bool.false_eq_true, if_false, cnt_ent]
      refine hK.out _ _ hHeld ?_
      clear hK K'
      try simp only [Act.put, List.setIfInBounds_toArray, List.set_cons_zero, List.set_cons_succ]
      (refine wpTree_q 5 hTok hOps (by kernel_rfl) rfl rfl ⟨?_, ?_, ?_⟩; rotate_left; (focus (intro wx hSx; (try dsimp only at hSx); go_simp; (try with_reducible rfl))); (simp only [Act.put, List.setIfInBounds_toArray, List.set_cons_zero, List.set_cons_succ]))
      refine wpTree_nil hOps (by kernel_rfl) ?_
      refine hT.out _ _ ?_
      simp only [List.drop_succ_cons, List.drop_zero]
      obtain ⟨fn, tmps, assign, body, hy, hR⟩ := hY.out (L.take i) L[i] w5 hJd hpl
      rw [hLi.out] at hy
      dsimp only [mkK] at hy
      clear hT hOps hTok hHeld hJd
      gi_wp2
      refine hR.mono ?_
      rintro e W' (⟨rfl, hJ', hk⟩ | ⟨rfl, hJx'⟩)
      · have hM6 := mapL_keepA hMd hk hn01
        have hO6 := own_keepA hOd hk (by omega) hnod.out
        have hno6 : Hid (∀ g, (Value.slice (some ⟨b2, off2, none⟩) m cv).ownBlock = some g → ¬ OwnA W' ab g) := Lib.hid (fun g h1 h2 => by
          rcases hk.ex g h2 with h3 | h3
          · exact hnod.out g h1 h3
          · have := (hOd.lt g h1).2
            omega)
        have hab6 : ab < W'.heap.size := Nat.lt_of_lt_of_le habd hk.size
        have hz6 : n1 < W'.heap.size := Nat.lt_of_lt_of_le hzd hk.size
        rw [← htk.out] at hJ'
        replace hJ' := Lib.hid hJ'
        clear hR hy hMd hOd hzd hk hnod habd
        gi_wp2
        refine ⟨by simp, ?_⟩
        go_wp2_with fail
        go_roundw
        case rel => exact ⟨i + 1, by omega, by go_num, hJ', hM6, hO6, hz6, hab6, hno6⟩
        case measure => simp [intOf]; omega
      · have hsp : ∃ L', IsAll cs L' ∧ (L.take i ++ [L[i]]).map (·.1) <+: L' := ⟨L.map (·.1), hA.out, by rw [← htk.out, List.map_take]; exact List.take_prefix _ _⟩
        replace hsp := Lib.hid hsp
        replace hJx' := Lib.hid hJx'
        gi_wp2
        refine ⟨by simp, ?_⟩
        go_wp2_with fail
        refine bodyPost_ret (results_none rfl _ _ _) rfl ?_
        exact ⟨⟨_, rfl⟩, .inr ⟨_, hsp.out, hJx'.out⟩⟩
    · obtain rfl : m = i := by omega
      have hJe := hJi.out
      rw [List.take_of_length_le (Nat.le_of_eq hLl.out)] at hJe
      replace hJe := Lib.hid hJe
      clear hJi
      go_wp2_with fail
      go_end0
      exact ⟨⟨_, rfl⟩, .inl ⟨L, hA.out, hJe.out⟩⟩
end Go.Proofs.Ytjmbafcpbagpdaa
