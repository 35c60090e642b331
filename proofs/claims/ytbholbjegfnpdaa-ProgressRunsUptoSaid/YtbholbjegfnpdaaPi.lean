/- Progress: the walk of ProgressKeeps. -/
import Derived.RangeFuncNested
import Derived.RangeFuncBound
import Derived.RangeFuncCalls
import Derived.RangeFuncLeaves
import Derived.RangeFuncFrom
import Derived.Shelf.Abstract
import Derived.Shelf.RegionOpen
import Derived.WalkKit
import Derived.OwnWalkIn
import Derived.TacticsInMore
import Derived.LoopNIn
import Derived.LoopIn
import Derived.Test.YtbholbjegfnpdaaPh
import Derived.Lib.Hide
namespace Go.Proofs.Ytbholbjegfnpdaa
open Go.RowKit Go.Maps Go.Shelf
attribute [local go_sem] Oper.semAt_some
set_option linter.unusedVariables false
set_option linter.unusedSimpArgs false

theorem pall_nil (w : World) : Calls Try.prog 22 #[.pointer none] w fun e w' => e = .returned (.func (.func 40) #[] #[.pointer (some ⟨w.heap.size, 0, none⟩)]) ∧ w' = w.alloc (.cells #[.pointer none] 28) := by
  go_enter Try.func22, Try.ntmps22
  go_wp2
  go_ret
  exact ⟨rfl, rfl⟩

set_option maxRecDepth 100000 in
theorem pall1_nil (F : Fence) (n : Nat) (h26 : F.fn 40) (hro : F.round = none) (l Bq : Nat) (W : World) (hB : W.cell? ⟨Bq, 0, none⟩ = some (.pointer none)) :
    CallsIn F n Try.prog 40 #[.func (.yield l) #[] #[], .pointer (some ⟨Bq, 0, none⟩)] W fun e W' => (∃ v, e = .returned v) ∧ W' = W := by
  have hlt : Bq < W.heap.size := World.lt_of_cell hB
  refine callsIn_of_wp Try.func40 rfl h26 ?_ hro
  simp only [Try.ntmps40, List.size_toArray, List.length_cons, List.length_nil, Nat.reduceAdd, Nat.reduceSub, Array.replicate_succ, Array.replicate_zero, List.push_toArray, List.append_toArray, List.nil_append, List.cons_append]
  gi_wp2
  refine bodyPost_ret (results_none rfl _ _ _) rfl ?_
  exact ⟨⟨_, rfl⟩, rfl⟩

theorem pall_stops (F : Fence) (n : Nat) (h26 : F.fn 40) (hro : F.round = none) (Bq : Nat) (w : World) (hBl : Bq < w.heap.size) (hB : w.cell? ⟨Bq, 0, none⟩ = some (.pointer none)) :
    SeqStopsK F n Try.prog 40 #[.pointer (some ⟨Bq, 0, none⟩)] (fun x : TCount => #[Value.agg #[.int .i64 x.fS.fLoc, .int .i64 x.fS.fT.fEpoch, .int .i64 x.fS.fT.fRound, .int .i64 x.fN]]) (fun _ _ => True)
      (fun ys => ys = []) (fun _ => False) 0 w := fun l J Jx W hW hJ _ hY h0 =>
  (pall1_nil F n h26 hro l Bq W ((hW.cell (p := ⟨Bq, 0, none⟩) hBl).trans hB)).mono fun e W' ⟨he, hj⟩ => ⟨he, .inl ⟨[], rfl, by rw [hj]; exact h0⟩⟩

/-- A range over a function that runs no round. -/
theorem prange_none {P : Program} {α : Type} {F : Fence} {n : Nat} {g : Operand} {ps : Array Tmp} {assign body : Code} {Q : Exit → Act → World → Prop} {a : Act} {w : World}
    (hro : F.round = none) (h1 : 1 ≤ n) {gf : Nat} {lb : Array Value} (hg : a.eval g = .func (.func gf) #[] lb) (hFg : F.fn gf) (eg : ∀ args w, (callFunc gf args).run P w = .ok (.enter gf args) w)
    {encs : α → Array Value} {w0 : World} (hseq : SeqStopsK F (n - 1) P gf lb encs (fun _ _ => True) (fun ys => ys = []) (fun _ => False) 0 w0) (hb0 : Below w0.heap.size w0 w) (hps : ∀ x, (encs x).size = ps.size)
    (hsk : ∀ l act W (K : Act → World → Prop), K act W → assign.wpIn (F.inRound l) (n - 1 - 1) P (Exit.then K (fun _ _ _ => False)) act W)
    (I : World → Prop) (hI : OwnFrom w.heap.size (fun (_ : List α) W => I W)) (h0 : I w)
    (hdone : ∀ (D : Nat) (W : World), w.heap.size ≤ D → I W → W.heap[D]? = some (.deferred (some [])) → Q .normal { a with defers := { target := .collected D, args := #[] } :: a.defers } W) :
    (Code.rangeFunc g ps assign body).wpIn F n P Q a w :=
  wpIn_rangeFunc_ownF (α := α) (encs := encs) hro h1 hg hFg eg hseq (fun _ _ => trivial) (fun _ _ _ _ _ _ _ _ => trivial) hb0 hps (fun _ W => I W) (fun _ _ _ => False) hI (fun _ _ _ _ _ hs _ _ => hs) h0
    (fun x => { tmps := (ps.zip (encs x)).foldl (fun t (p, v) => t.setIfInBounds p v) a.tmps, defers := [] })
    (fun l x W K hK => hsk l _ W K hK) (fun l pre x W _ hlt => absurd hlt (Nat.not_lt_zero _)) (fun D xs W h1 _ h3 h4 => hdone D W h1 h3 h4) (fun D c pre W _ hs => hs.elim)

theorem tcount_nil (s : TStamp) (w : World) : Calls Try.prog 20 #[.pointer none, mkS s] w fun e w' => e = .returned (.int .i64 0) ∧ Below w.heap.size w w' := by
  obtain ⟨l, ⟨e, r⟩⟩ := s
  unfold mkS
  dsimp only
  go_enter Try.func20, Try.ntmps20
  go_wp2_with fail
  go_ret
  first
    | exact ⟨rfl, Below.refl _ _⟩
    | exact ⟨rfl, (Below.refl _ _).alloc (Nat.le_refl _) _⟩

theorem imp_ops2 {w W : World} {ao : Option Addr} {cap : Nat} {xs : List TOp} (h : SlA w.heap.size 7 (ROp w.heap.size) w ao cap xs) (hb : Below w.heap.size w W) : SlA W.heap.size 7 (ROp W.heap.size) W ao cap xs := h.imp hb hb.size (fun _ _ _ h => h.imp hb hb.size)
def encK (x : TCount) : List Value := [.int .i64 x.fS.fLoc, .int .i64 x.fS.fT.fEpoch, .int .i64 x.fS.fT.fRound, .int .i64 x.fN]
theorem encK_len (x : TCount) : (encK x).length = 4 := rfl
theorem encK_one (x : TCount) : ∀ u ∈ encK x, u.oneCell' = true := by
  intro u hu
  simp only [encK, List.mem_cons, List.not_mem_nil, or_false] at hu
  rcases hu with rfl | rfl | rfl | rfl <;> rfl
theorem infoK : (Try.prog.info? 40).map (fun i => (i.zero, i.size, i.bytes)) = some (some (.agg #[.int .i64 0, .int .i64 0, .int .i64 0, .int .i64 0]), 4, 32) := by kernel_rfl

set_option maxRecDepth 100000 in
set_option maxHeartbeats 4000000 in
theorem pkeeps_no (ops : List TOp) (cap : Nat) (ao : Option Addr) (l : List TCount) (la : Option Addr) (lc : Nat) (w : World) (hx : SlA w.heap.size 7 (ROp w.heap.size) w ao cap ops) (hl : SlA w.heap.size 4 (RCount w.heap.size) w la lc l) (hz : l.length * 32 ≤ 140737488351232) (hok : (gcheck ops).2 ≠ 0) :
    Calls Try.prog 7 #[.agg #[.slice ao ops.length cap], .slice la l.length lc] w fun e w' => e = .returned (.bool true) ∧ Below w.heap.size w w' := by
  obtain ⟨jK, hiK, hK0, hK1, hK2⟩ := info_parts infoK
  have hN := fun W hb => new_no ops cap ao W (imp_ops2 hx hb) hok
  obtain ⟨n, hn⟩ : ∃ n, n = ops.length := ⟨_, rfl⟩
  rw [← hn] at hN ⊢
  obtain ⟨m, hm⟩ : ∃ m, m = l.length := ⟨_, rfl⟩
  rw [← hm] at hz ⊢
  replace hm := Lib.hid hm
  replace hN := Lib.hid hN
  clear hn hx hok
  refine calls_of_marks Try.func7 rfl ?_
  simp only [Try.ntmps7, List.size_toArray, List.length_cons, List.length_nil, Nat.reduceAdd, Nat.reduceSub, Array.replicate_succ, Array.replicate_zero, List.push_toArray, List.append_toArray, List.nil_append, List.cons_append]
  go_wp2_with fail
  refine (pknown_any _).mono ?_
  rintro e w1 ⟨rfl, hb1⟩
  have hd1 : Hd [(w.heap.size, .slice ao n cap, 24)] w1 := ((Hd.nil w).alloc (.slice ao n cap) 24).below hb1 (Nat.le_refl _)
  have hbel : Below w.heap.size w w1 := ((Below.refl w.heap.size w).alloc (Nat.le_refl _) (.cells #[.slice ao n cap] 24)).trans (hb1.mono (by simp))
  clear hb1
  have cg := hd1.cell (b := w.heap.size) (v := .slice ao n cap) (T := 24) (by simp)
  dsimp only
  go_wp2_with fail
  refine (hN.out _ hbel).mono ?_
  rintro e w2 ⟨rfl, hb2⟩
  have hbel2 := hbel.trans (hb2.mono hbel.size)
  clear hb2 hd1 cg hbel w1
  dsimp only
  go_wp2_with (at_builtin; refine Shut.out ?ka)
  unfold Shut
  have hown0 : OwnL encK (w2.alloc (.cells #[] 40)) w2.heap.size 40 4 (.slice (some ⟨w2.heap.size, 0, none⟩) 0 0) [] := OwnL.of_blk (xs := []) (cap := 0) (Blk.new w2 #[] 40) (Nat.le_refl _) (Nat.le_refl 0) (by unfold maxLen; omega) rfl rfl rfl
  have hii2 : SlA w.heap.size 4 (fun _ cs x => cs = encK x) (w2.alloc (.cells #[] 40)) la lc l := hl.imp (hbel2.trans ((below_alloc1 w2 (.cells #[] 40)).mono hbel2.size)) (Nat.le_refl _) (fun cs x _ h => h.1)
  refine wpList_app_sla (xs := []) (ys := l) (enc := encK) (base := w2.heap.size) _ rfl _ _ 41 rfl Try.underlying41 hiK hK0 hK1 hK2 rfl (by decide) rfl hown0 (by show Value.slice la m lc = _; rw [hm.out]) hii2 encK_len encK_one (by rw [← hm.out]; unfold maxLen; simp; omega) (by rw [← hm.out]; simp; omega) (by simp) (fun v3 w3 hown3 hgr3 => ?_)
  rw [List.nil_append] at hown3
  have hb23 : Below w2.heap.size w2 w3 := (below_alloc1 w2 (.cells #[] 40)).grown hgr3 (by simp) (fun g hg => by simp [Act.eval, Value.ownBlock] at hg; omega)
  clear hown0 hii2 hgr3
  have hbel3 : Below w.heap.size w w3 := hbel2.trans (hb23.mono hbel2.size)
  clear hown3 hb23 hbel2
  generalize hwr : w3 = wr at *
  clear hwr
  have hbel := hbel3
  have hsz := hbel.size
  go_wp2_with fail
  refine (pall_nil _).mono ?_
  rintro e w4 ⟨rfl, rfl⟩
  dsimp only
  have hsw : ((wr.alloc (.cells #[.int .i64 0] 3)).alloc (.cells #[.pointer none] 28)).heap.size = wr.heap.size + 1 + 1 := by simp
  have hbX : Below w.heap.size w ((wr.alloc (.cells #[.int .i64 0] 3)).alloc (.cells #[.pointer none] 28)) := (hbel.alloc hsz _).alloc (by simp; omega) _
  have hcX : ((wr.alloc (.cells #[.int .i64 0] 3)).alloc (.cells #[.pointer none] 28)).cell? ⟨wr.heap.size, 0, none⟩ = some (.int .i64 0) := ((Blk.new wr #[.int .i64 0] 3).alloc _).cellAt rfl
  have hqX : ((wr.alloc (.cells #[.int .i64 0] 3)).alloc (.cells #[.pointer none] 28)).cell? ⟨wr.heap.size + 1, 0, none⟩ = some (.pointer none) := by
    simp
  generalize hgX : (wr.alloc (.cells #[.int .i64 0] 3)).alloc (.cells #[.pointer none] 28) = wX
  rw [hgX] at hsw hbX hcX hqX
  have hszX := hbX.size
  simp only [World.size_alloc]
  clear hgX
  go_wp2_with fail
  refine (wpIn_wide (n := 8)).1 ?_
  refine prange_none (α := TCount) (encs := fun x => #[Value.agg #[.int .i64 x.fS.fLoc, .int .i64 x.fS.fT.fEpoch, .int .i64 x.fS.fT.fRound, .int .i64 x.fN]]) rfl (by omega) (gf := 40) (lb := #[.pointer (some ⟨wr.heap.size + 1, 0, none⟩)]) rfl trivial (enters_of Try.func40 (by kernel_rfl) rfl)
    (pall_stops Fence.wide _ trivial rfl (wr.heap.size + 1) wX (by omega) hqX) (Below.refl _ _) (fun _ => rfl) (fun l act W K hK => by gi_wp2; exact hK)
    (fun W => W.cell? ⟨wr.heap.size, 0, none⟩ = some (.int .i64 0) ∧ Below w.heap.size w W)
    (OwnFrom.and (Own.from (fun s A B row hs hg hr => cell_kept hs hg hr) _) (ownFrom_below (Nat.le_refl _) hszX))
    ⟨hcX, hbX⟩ ?done
  case done =>
    rintro D W hD ⟨hcW, hBW⟩ hK
    try dsimp only
    go_wp2_with fail
    refine (update_nil _ _).mono ?_
    rintro e w5 ⟨rfl, rfl⟩
    dsimp only
    go_wp2_with fail
    refine (tcount_nil ⟨0, ⟨0, 0⟩⟩ _).mono ?_
    rintro e w6 ⟨rfl, hb6⟩
    dsimp only
    go_wp2_with fail
    refine (tdone_nil ⟨0, ⟨0, 0⟩⟩ _).mono ?_
    rintro e w7 ⟨rfl, hb7⟩
    dsimp only
    go_wp2_with fail
    refine (tfront_nil _ _).mono ?_
    rintro e w8 ⟨rfl, rfl⟩
    dsimp only
    go_wp2_with fail
    have hb67 := hb6.trans (hb7.mono hb6.size)
    have hbW8 := hBW.trans (hb67.mono hBW.size)
    have hM : Marks w.heap.size [{ target := .collected D, args := #[] }] w8 := Marks.chg (ds := [{ target := .collected D, args := #[] }]) ⟨D, rfl, by omega, hK, by simp, trivial⟩ (Chg.of_below hb67) (fun k hk x => by
      intro h
      have := (Array.getElem?_eq_some_iff.1 h).1
      omega)
    refine leavesM_marks _ _ hM hbW8.size (fun w' hs => ?_)
    exact ⟨.bool true, by first | exact results_tmp Try.results7 _ _ _ | simp [results, Try.results7, go_sem], rfl, hbW8.trans hs.below⟩

theorem own_ne_map {enc : TCount → List Value} {w : World} {base mb : Nat} {v : Value} {L : List TCount} {es : List (TStamp × Value)} (h : OwnL enc w base 40 4 v L) (hM : MapL Try.prog 37 klS wfS w mb es) : ∀ g, v.ownBlock = some g → ¬ g = mb := fun g e1 e2 => by
  rcases h.form with ⟨h4, _⟩ | ⟨g', cap2, cells, h4, h5, _⟩
  · rw [h4] at e1; cases e1
  · rw [h4] at e1
    obtain rfl : g' = g := by simpa [Value.ownBlock] using e1
    exact hM.ne_blk h5 e2.symm
theorem rcount_all {B B' : Nat} {w w' : World} {la : Option Addr} {lc : Nat} {l : List TCount} (h : SlA B 4 (RCount B) w la lc l) : ∀ x ∈ l, RCount B' w' (encK x) x := fun x hx => by
  obtain ⟨j, hj, rfl⟩ := List.getElem_of_mem hx
  obtain ⟨b2, off2, rfl, _, _⟩ := h.addr (by omega)
  obtain ⟨_, _, _, _, h1, h2, h3, h4⟩ := RCount.at h hj rfl
  exact ⟨rfl, h1, h2, h3, h4⟩

set_option maxRecDepth 100000 in
set_option maxHeartbeats 4000000 in
theorem pkeeps_ok (ops : List TOp) (cap : Nat) (ao : Option Addr) (l : List TCount) (la : Option Addr) (lc : Nat) (w : World) (hx : SlA w.heap.size 7 (ROp w.heap.size) w ao cap ops) (hl : SlA w.heap.size 4 (RCount w.heap.size) w la lc l) (hz : l.length * 32 ≤ 140737488351232) (hok : (gcheck ops).2 = 0) (hzi : ∀ o ∈ ops, o.fIn.length * 8 ≤ 140737488355328) :
    Calls Try.prog 7 #[.agg #[.slice ao ops.length cap], .slice la l.length lc] w fun e w' => e = .returned (.bool true) ∧ Below w.heap.size w w' := by
  obtain ⟨jK, hiK, hK0, hK1, hK2⟩ := info_parts infoK
  have hN := fun W hb => new_ok ops ao cap W (imp_ops2 hx hb) hok hzi
  obtain ⟨n, hn⟩ : ∃ n, n = ops.length := ⟨_, rfl⟩
  rw [← hn] at hN ⊢
  obtain ⟨m, hm⟩ : ∃ m, m = l.length := ⟨_, rfl⟩
  rw [← hm] at hz ⊢
  replace hm := Lib.hid hm
  replace hN := Lib.hid hN
  clear hn hx hok hzi
  refine calls_of_marks Try.func7 rfl ?_
  simp only [Try.ntmps7, List.size_toArray, List.length_cons, List.length_nil, Nat.reduceAdd, Nat.reduceSub, Array.replicate_succ, Array.replicate_zero, List.push_toArray, List.append_toArray, List.nil_append, List.cons_append]
  go_wp2_with fail
  refine (pknown_any _).mono ?_
  rintro e w1 ⟨rfl, hb1⟩
  have hd1 : Hd [(w.heap.size, .slice ao n cap, 24)] w1 := ((Hd.nil w).alloc (.slice ao n cap) 24).below hb1 (Nat.le_refl _)
  have hbel : Below w.heap.size w w1 := ((Below.refl w.heap.size w).alloc (Nat.le_refl _) (.cells #[.slice ao n cap] 24)).trans (hb1.mono (by simp))
  clear hb1
  have cg := hd1.cell (b := w.heap.size) (v := .slice ao n cap) (T := 24) (by simp)
  dsimp only
  go_wp2_with fail
  refine (hN.out _ hbel).mono ?_
  rintro e w2 ⟨hb2, tb, x, rfl, hT⟩
  have hbel2 := hbel.trans (hb2.mono hbel.size)
  have hmbb : w.heap.size ≤ x.mb := Nat.le_trans hbel.size hT.bmb
  clear hb2 hd1 cg hN
  dsimp only
  go_wp2_with (at_builtin; refine Shut.out ?ka)
  unfold Shut
  have hown0 : OwnL encK (w2.alloc (.cells #[] 40)) w2.heap.size 40 4 (.slice (some ⟨w2.heap.size, 0, none⟩) 0 0) [] := OwnL.of_blk (xs := []) (cap := 0) (Blk.new w2 #[] 40) (Nat.le_refl _) (Nat.le_refl 0) (by unfold maxLen; omega) rfl rfl rfl
  have hii2 : SlA w.heap.size 4 (fun _ cs x => cs = encK x) (w2.alloc (.cells #[] 40)) la lc l := hl.imp (hbel2.trans ((below_alloc1 w2 (.cells #[] 40)).mono hbel2.size)) (Nat.le_refl _) (fun cs x _ h => h.1)
  refine wpList_app_sla (xs := []) (ys := l) (enc := encK) (base := w2.heap.size) _ rfl _ _ 41 rfl Try.underlying41 hiK hK0 hK1 hK2 rfl (by decide) rfl hown0 (by show Value.slice la m lc = _; rw [hm.out]) hii2 encK_len encK_one (by rw [← hm.out]; unfold maxLen; simp; omega) (by rw [← hm.out]; simp; omega) (by simp) (fun v3 w3 hown3 hgr3 => ?_)
  rw [List.nil_append] at hown3
  have hb23 : Below w2.heap.size w2 w3 := (below_alloc1 w2 (.cells #[] 40)).grown hgr3 (by simp) (fun g hg => by simp [Act.eval, Value.ownBlock] at hg; omega)
  clear hown0 hii2 hgr3
  have hbel3 : Below w.heap.size w w3 := hbel2.trans (hb23.mono hbel2.size)
  have hT3 := hT.below hb23
  obtain ⟨ai, ci, hv3, hsi⟩ := hown3.sla (E := RCount w3.heap.size) encK_len (rcount_all hl)
  have hU := update_any l ai ci w3 hT3 hsi (by rw [← hm.out]; omega) (by rw [← hm.out]; simp; omega)
  rw [← hm.out] at hU hv3
  subst hv3
  clear hsi hb23 hbel2 hT
  go_wp2_with fail
  refine hU.mono ?_
  rintro e w5 ⟨rfl, hc5, hbad, hgood⟩
  obtain ⟨cs, hT5, hcl⟩ : ∃ cs, Tr w5 w1.heap.size tb x ops cs ∧ cs.length ≤ m := by
    by_cases hE : updE ops [] l = 0
    · obtain ⟨cs, h1, _, h3⟩ := hgood hE
      exact ⟨cs, h1, by simpa using h3⟩
    · exact ⟨[], hT3.below ((hbad hE).mono (Nat.le_refl _)), by simp⟩
  have hown5 := hown3.chg hc5 (own_ne_map hown3 hT3.map)
  have hbel5 : Below w.heap.size w w5 := hbel3.trans (hc5.below hbel3.size (fun k hk e => by omega))
  obtain ⟨ai', ci', hv5, hsi⟩ := hown5.sla (E := RCount w5.heap.size) encK_len (rcount_all hl)
  rw [← hm.out] at hv5
  obtain ⟨rfl, rfl⟩ : ai = ai' ∧ ci = ci' := by simpa using hv5
  have hlen := hl.len
  rw [← hm.out] at hlen
  generalize updE ops [] l = ue
  clear hU hc5 hbad hgood hT3 hown3 hown5 hv5 hbel3 hmbb hbel
  have hcz : (cs.length + 1) * 24 ≤ 140737488355328 := by omega
  dsimp only
  go_wp2_with fail
  go_loopw [8] (fun x8 wr => ∃ i : Nat, i ≤ m ∧ x8 = .int .i64 i ∧ Below w5.heap.size w5 wr) (fun x8 _ => m - (intOf x8).toNat)
  case atStart => exact ⟨0, Nat.zero_le _, rfl, Below.refl _ _⟩
  case round =>
    obtain ⟨i, him, rfl, hbr⟩ := hrel
    by_cases hi : i < m
    · have hix : i < l.length := by rw [← hm.out]; exact hi
      have hbw := hbel5.trans (hbr.mono hbel5.size)
      obtain ⟨b2, off2, rfl, hb2l, _⟩ := hl.addr (by omega)
      obtain ⟨b3, off3, rfl, hb3l, _⟩ := hsi.addr (by omega)
      obtain ⟨c, hc⟩ : ∃ c, l[i] = c := ⟨_, rfl⟩
      obtain ⟨e0, e1, e2, e3, _⟩ := RCount.at (hl.imp hbw (Nat.le_refl _) (fun _ _ _ h => h.imp hbw (Nat.le_refl _))) hix hc
      obtain ⟨f0, f1, f2, f3, _⟩ := RCount.at (hsi.imp hbr (Nat.le_refl _) (fun _ _ _ h => h.imp hbr (Nat.le_refl _))) hix hc
      obtain ⟨⟨cl, ⟨ce, cr⟩⟩, cN⟩ := c
      dsimp only at e0 e1 e2 e3 f0 f1 f2 f3
      have q0 := Wd.cell e0 (World.lt_of_cell e0)
      have q1 := Wd.cell e1 (World.lt_of_cell e1)
      have q2 := Wd.cell e2 (World.lt_of_cell e2)
      have q3 := Wd.cell e3 (World.lt_of_cell e3)
      have p0 := Wd.cell f0 (World.lt_of_cell f0)
      have p1 := Wd.cell f1 (World.lt_of_cell f1)
      have p2 := Wd.cell f2 (World.lt_of_cell f2)
      have p3 := Wd.cell f3 (World.lt_of_cell f3)
      have hsame := fun W => rsame_tt cl ce cr W
      have hvv : ((cN : Int) != cN) = false := by simp
      have hs7 := hbr.size
      clear hc
      go_wp2_with fail
      refine wp_region_below (by kernel_rfl) (by kernel_rfl) ?_
      repeat (go_big_quiet_step ((go_at_call 23; exact Calls.quiet_below (hsame _))))
      refine wpQuiet_nil ?_
      rintro _ ⟨u, rfl⟩
      have hbu := hbr.trans (u.h.mono hs7)
      go_wp2_with fail
      go_roundw
      case rel => exact ⟨i + 1, by omega, by go_num, hbu⟩
      case measure => simp [intOf]; omega
    · have hT6 := hT5.below hbr
      have hbel6 := hbel5.trans (hbr.mono hbel5.size)
      clear hT5 hbel5 hbr hsi
      obtain ⟨w55, hw55⟩ : ∃ w55, w55 = wr := ⟨_, rfl⟩
      subst hw55
      go_wp2_with fail
      refine (tfront_any 0 w55 hT6 hcz).mono ?_
      rintro e w6 ⟨va, fa, rfl, hva, hfa, hb6⟩
      have hT7 := hT6.below hb6
      dsimp only
      go_wp2_with fail
      refine (tfront_any 0 w6 hT7 hcz).mono ?_
      rintro e w7 ⟨vb, fb, rfl, hvb, hfb, hb7⟩
      have hva7 := hva.1.below hb7 (Nat.le_refl _)
      have hal := hva.1.lt
      have hbel7 := hbel6.trans ((hb6.trans (hb7.mono hb6.size)).mono hbel6.size)
      have hnn : ∀ y ∈ fb, 0 ≤ y.fEpoch := fun y hy => by
        have h1 := ((hfb.mem y).1 hy).2.1
        obtain ⟨ye, yr⟩ := y
        exact (goodT_nn h1).1
      have hwsz := hbel6.size
      obtain ⟨aa, ca, hva2, hca, _, _⟩ := hva7.slice
      obtain ⟨na, hna⟩ : ∃ na, na = fa.length := ⟨_, rfl⟩
      have hform := hva7.form
      rw [← hna] at hva2 hform
      have hblk : 0 < na → ∃ g, aa = some ⟨g, 0, none⟩ ∧ w55.heap.size ≤ g ∧ g < w6.heap.size ∧ ∃ cells, Blk w7 g cells 35 ∧ na * 2 ≤ cells.size := fun h0 => by
        rcases hform with ⟨_, h2⟩ | ⟨g, cap2, cells, h1, h2, h3, h4, h5, _⟩
        · rw [hna, h2] at h0; simp at h0
        · have h9 := hal g (by rw [h1]; rfl)
          rw [h1] at hva2
          injection hva2 with q1 q2 q3
          exact ⟨g, q1.symm, h9.1, h9.2, cells, h2, by rw [h5]; omega⟩
      have hnal : na ≤ 9223372036854775807 := by rw [hna]; have := hva7.slice; obtain ⟨_, _, _, h1, h2, _⟩ := this; unfold maxLen at h2; omega
      have hlb := hvb.1.lt
      subst hva2
      replace hform := Lib.hid hform
      clear hform hva hva7 hfa hfb hna hT6 hT7 hca hal
      dsimp only
      go_wp2_with fail
      go_loopw [11] (fun x11 wz => ∃ i : Nat, i ≤ na ∧ x11 = .int .i64 i ∧ Chg (fun k => w55.heap.size ≤ k ∧ k < w6.heap.size) w7 wz ∧ (∀ g, aa = some ⟨g, 0, none⟩ → 0 < na → ∃ cells, Blk wz g cells 35 ∧ na * 2 ≤ cells.size)) (fun x11 _ => na - (intOf x11).toNat)
      case atStart => exact ⟨0, Nat.zero_le _, rfl, Chg.refl _ _, fun g hg h0 => by
        obtain ⟨g', h1, _, _, cells, h2, h3⟩ := hblk h0
        rw [h1] at hg
        obtain rfl : g' = g := by simpa using hg
        exact ⟨cells, h2, h3⟩⟩
      case round =>
        obtain ⟨j, hj, rfl, hcz7, hbz⟩ := hrel
        by_cases hjn : j < na
        · obtain ⟨g, rfl, hg1, hg2, _⟩ := hblk (by omega)
          obtain ⟨cells, hB, hcs⟩ := hbz g rfl (by omega)
          obtain ⟨ov, hov⟩ : ∃ ov, cells[j * 2]? = some ov := ⟨cells[j * 2]'(by omega), Array.getElem?_eq_getElem (by omega)⟩
          have c0 := hB.cellAt hov
          have cf := hB.frozen (j * 2)
          have hset := hcz7.setCell ⟨g, j * 2, none⟩ (.int .i64 (-5)) (fun _ => ⟨hg1, hg2⟩)
          have hB2 := hB.set (j * 2) (.int .i64 (-5))
          have hcs2 : na * 2 ≤ (cells.setIfInBounds (j * 2) (.int .i64 (-5))).size := by simpa using hcs
          replace hset := Lib.hid hset
          replace hB2 := Lib.hid hB2
          replace hcs2 := Lib.hid hcs2
          replace hblk := Lib.hid hblk
          clear hbz hcs hcz7
          go_wp2_with fail
          go_roundw
          case rel => exact ⟨j + 1, by omega, by go_num, hset.out, fun g' hg' _ => by
            obtain rfl : g = g' := by simpa using hg'
            exact ⟨_, hB2.out, hcs2.out⟩⟩
          case measure => simp [intOf]; omega
        · obtain ⟨wz, hwz⟩ : ∃ wz, wz = wr := ⟨_, rfl⟩
          subst hwz
          have hvz := hvb.1.chg hcz7 (fun g e1 e2 => by have := (hlb g e1).1; omega)
          have hbelz : Below w.heap.size w wz := hbel7.trans (hcz7.below hbel7.size (fun k hk e => by omega))
          obtain ⟨ab, cb, hvb2, hsb⟩ := OwnT.sla (w := wz) (base := w6.heap.size) ⟨hvz, hvb.2⟩
          obtain ⟨nb, hnb⟩ : ∃ nb, nb = fb.length := ⟨_, rfl⟩
          have hlb2 := hsb.len
          rw [← hnb] at hvb2 hlb2
          subst hvb2
          replace hnb := Lib.hid hnb
          replace hnn := Lib.hid hnn
          clear hbz hblk hvb hvz hcz7 hbel7 hlb
          go_wp2_with fail
          go_loopw [12] (fun x12 wy => ∃ i : Nat, i ≤ nb ∧ x12 = .int .i64 i ∧ wz = wy) (fun x12 _ => nb - (intOf x12).toNat)
          case atStart => exact ⟨0, Nat.zero_le _, rfl, rfl⟩
          case round =>
            obtain ⟨j, hj2, rfl, hwy⟩ := hrel
            subst hwy
            by_cases hjb : j < nb
            · have hjx : j < fb.length := by rw [← hnb.out]; exact hjb
              obtain ⟨b4, off4, rfl, hb4l, _⟩ := hsb.addr (by omega)
              obtain ⟨y, hy⟩ : ∃ y, fb[j] = y := ⟨_, rfl⟩
              obtain ⟨e0, e1, _⟩ := RTime.at hsb hjx hy
              have hyn := hnn.out y (by rw [← hy]; exact List.getElem_mem hjx)
              have hd : decide (y.fEpoch < 0) = false := by simpa using hyn
              clear hy hyn
              go_wp2_with fail
              go_roundw
              case rel => exact ⟨j + 1, by omega, by go_num, by first | rfl | trivial⟩
              case measure => simp [intOf]; omega
            · clear hsb hnn
              obtain ⟨wr, hwr⟩ : ∃ wr, wr = wz := ⟨_, rfl⟩
              subst hwr
              have hbel := hbelz
              have hsz := hbel.size
              clear hbelz
              go_wp2_with fail
              refine (pall_nil _).mono ?_
              rintro e w4 ⟨rfl, rfl⟩
              dsimp only
              have hsw : ((wr.alloc (.cells #[.int .i64 0] 3)).alloc (.cells #[.pointer none] 28)).heap.size = wr.heap.size + 1 + 1 := by simp
              have hbX : Below w.heap.size w ((wr.alloc (.cells #[.int .i64 0] 3)).alloc (.cells #[.pointer none] 28)) := (hbel.alloc hsz _).alloc (by simp; omega) _
              have hcX : ((wr.alloc (.cells #[.int .i64 0] 3)).alloc (.cells #[.pointer none] 28)).cell? ⟨wr.heap.size, 0, none⟩ = some (.int .i64 0) := ((Blk.new wr #[.int .i64 0] 3).alloc _).cellAt rfl
              have hqX : ((wr.alloc (.cells #[.int .i64 0] 3)).alloc (.cells #[.pointer none] 28)).cell? ⟨wr.heap.size + 1, 0, none⟩ = some (.pointer none) := by
                simp
              generalize hgX : (wr.alloc (.cells #[.int .i64 0] 3)).alloc (.cells #[.pointer none] 28) = wX
              rw [hgX] at hsw hbX hcX hqX
              have hszX := hbX.size
              simp only [World.size_alloc]
              clear hgX
              go_wp2_with fail
              refine (wpIn_wide (n := 8)).1 ?_
              refine prange_none (α := TCount) (encs := fun x => #[Value.agg #[.int .i64 x.fS.fLoc, .int .i64 x.fS.fT.fEpoch, .int .i64 x.fS.fT.fRound, .int .i64 x.fN]]) rfl (by omega) (gf := 40) (lb := #[.pointer (some ⟨wr.heap.size + 1, 0, none⟩)]) rfl trivial (enters_of Try.func40 (by kernel_rfl) rfl)
                (pall_stops Fence.wide _ trivial rfl (wr.heap.size + 1) wX (by omega) hqX) (Below.refl _ _) (fun _ => rfl) (fun l act W K hK => by gi_wp2; exact hK)
                (fun W => W.cell? ⟨wr.heap.size, 0, none⟩ = some (.int .i64 0) ∧ Below w.heap.size w W)
                (OwnFrom.and (Own.from (fun s A B row hs hg hr => cell_kept hs hg hr) _) (ownFrom_below (Nat.le_refl _) hszX))
                ⟨hcX, hbX⟩ ?done
              case done =>
                rintro D W hD ⟨hcW, hBW⟩ hK
                try dsimp only
                go_wp2_with fail
                refine (update_nil _ _).mono ?_
                rintro e w5 ⟨rfl, rfl⟩
                dsimp only
                go_wp2_with fail
                refine (tcount_nil ⟨0, ⟨0, 0⟩⟩ _).mono ?_
                rintro e w6 ⟨rfl, hb6⟩
                dsimp only
                go_wp2_with fail
                refine (tdone_nil ⟨0, ⟨0, 0⟩⟩ _).mono ?_
                rintro e w7 ⟨rfl, hb7⟩
                dsimp only
                go_wp2_with fail
                refine (tfront_nil _ _).mono ?_
                rintro e w8 ⟨rfl, rfl⟩
                dsimp only
                go_wp2_with fail
                have hb67 := hb6.trans (hb7.mono hb6.size)
                have hbW8 := hBW.trans (hb67.mono hBW.size)
                have hM : Marks w.heap.size [{ target := .collected D, args := #[] }] w8 := Marks.chg (ds := [{ target := .collected D, args := #[] }]) ⟨D, rfl, by omega, hK, by simp, trivial⟩ (Chg.of_below hb67) (fun k hk x => by
                  intro h
                  have := (Array.getElem?_eq_some_iff.1 h).1
                  omega)
                refine leavesM_marks _ _ hM hbW8.size (fun w' hs => ?_)
                exact ⟨.bool true, by first | exact results_tmp Try.results7 _ _ _ | simp [results, Try.results7, go_sem], rfl, hbW8.trans hs.below⟩
theorem pkeeps_row {w : World} (cs : Array Value) (x : TGraph) (hx : RGraph w.heap.size w (Value.cells (.agg cs)).toList x) (hz : x.fOps.length * 72 ≤ reachBytes) (hzi : ∀ o ∈ x.fOps, o.fIn.length * 8 ≤ reachBytes)
    (ao : Option Addr) (len cap : Nat) (l : List TCount) (hl : RSl w.heap.size 4 (RCount w.heap.size) w (Value.cells (.slice ao len cap)).toList l) (hzl : cap * 32 ≤ reachBytes) :
    Calls Try.prog 7 #[.agg cs, .slice ao len cap] w fun e w' => e = .returned (.bool true) ∧ Below w.heap.size w w' := by
  obtain ⟨ag, cg, rfl, hs⟩ := graph_agg hx
  obtain ⟨a1, c1, h1, h2⟩ := hl
  obtain ⟨rfl, rfl, rfl⟩ : ao = a1 ∧ len = l.length ∧ cap = c1 := by simpa [Value.cells] using h1
  have hr : reachBytes = 140737488351232 := rfl
  have hcl := h2.1
  have hz2 : l.length * 32 ≤ 140737488351232 := by omega
  by_cases hok : (gcheck x.fOps).2 = 0
  · exact pkeeps_ok x.fOps cg ag l ao cap w hs h2 hz2 hok (fun o ho => by have := hzi o ho; omega)
  · exact pkeeps_no x.fOps cg ag l ao cap w hs h2 hz2 hok
end Go.Proofs.Ytbholbjegfnpdaa
