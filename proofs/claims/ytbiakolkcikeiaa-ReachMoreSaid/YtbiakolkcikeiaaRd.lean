/- Reach: Next. -/
import Derived.Test.YtbiakolkcikeiaaRc
import Derived.Test.YtbiakolkcikeiaaBaseX
import Derived.Test.YtbiakolkcikeiaaGy
import Derived.Deep.Cut
import Derived.Deep.CutRange
namespace Go.Proofs.Ytbiakolkcikeiaa
open Go.RowKit Go.Shelf
attribute [local go_sem] Oper.semAt_some
set_option linter.unusedVariables false
set_option linter.unusedSimpArgs false

def encS (x : TStamp) : List Value := [.int .i64 x.fLoc, .int .i64 x.fT.fEpoch, .int .i64 x.fT.fRound]
theorem encS_len (x : TStamp) : (encS x).length = 3 := rfl
theorem encS_one (x : TStamp) : ∀ u ∈ encS x, u.oneCell' = true := by
  intro u hu
  simp only [encS, List.mem_cons, List.not_mem_nil, or_false] at hu
  rcases hu with rfl | rfl | rfl <;> rfl
theorem infoS : (Try.prog.info? 28).map (fun i => (i.zero, i.size, i.bytes)) = some (some (.agg #[.int .i64 0, .int .i64 0, .int .i64 0]), 3, 24) := by kernel_rfl

def furS (ops : List TOp) (l e r : Int) : List TStamp := if (opAt ops l).fKind = 7 ∧ r < (opAt ops l).fRounds - 1 then [⟨l, ⟨e, r + 1⟩⟩] else []
def useS (e : Int) (x : Nat × Nat) : TStamp := ⟨(x.1 : Nat), ⟨e, 0⟩⟩
def nextS (ops : List TOp) (l e r : Int) : List TStamp := if decide ((gcheck ops).2 = 0) && goodS ops l e r then furS ops l e r ++ (usesL ops l).map (useS e) else []

/-- The state of Next: its variables, and the list so far. -/
structure NSt (w wr : World) (ob : Nat) (ao : Option Addr) (n cap : Nat) (l e r : Int) (L : List TStamp) (v : Value) : Prop where
  bel : Below w.heap.size w wr
  g : Blk wr w.heap.size #[.slice ao n cap] 24
  s : Blk wr (w.heap.size + 1) #[.int .i64 l, .int .i64 e, .int .i64 r] 28
  o : Blk wr (ob) #[v] 33
  own : OwnL encS wr (ob + 1) 28 3 v L
  o1 : w.heap.size + 1 < ob
namespace NSt
variable {w wr wr' : World} {ob : Nat} {ao : Option Addr} {n cap : Nat} {l e r : Int} {L : List TStamp} {v : Value}
theorem below (h : NSt w wr ob ao n cap l e r L v) (k : Below wr.heap.size wr wr') : NSt w wr' ob ao n cap l e r L v :=
  ⟨h.bel.trans (k.mono h.bel.size), h.g.below k h.g.lt, h.s.below k h.s.lt, h.o.below k h.o.lt, h.own.below k (Nat.le_refl _), h.o1⟩
theorem chg {S : Nat → Prop} (h : NSt w wr ob ao n cap l e r L v) (k : Chg S wr wr') (hS : ∀ b, S b → b < wr.heap.size → w.heap.size ≤ b ∧ ∀ cs T, ¬ Blk wr b cs T) : NSt w wr' ob ao n cap l e r L v := by
  have hb : ∀ {b cs T}, Blk wr b cs T → ¬ S b := fun hb hs => (hS _ hs hb.lt).2 _ _ hb
  exact ⟨h.bel.trans (k.below h.bel.size (fun b hbl hs => by
      have := h.bel.size
      have := (hS b hs (by omega)).1
      omega)), h.g.chg k (hb h.g), h.s.chg k (hb h.s), h.o.chg k (hb h.o), h.own.chg k (fun g hg hs => by
      rcases h.own.form with ⟨h1, _⟩ | ⟨g', cap, cells, h1, h2, _⟩
      · rw [h1] at hg; cases hg
      · rw [h1] at hg
        obtain rfl : g' = g := by simpa [Value.ownBlock] using hg
        exact hb h2 hs), h.o1⟩
theorem ownF {β : Type} {B : Nat} (F : β → List TStamp) (hB : w.heap.size ≤ B) : OwnFrom B (fun s W => ∃ v, NSt w W ob ao n cap l e r (F s) v) := fun s X Y row ⟨v, hs⟩ hg hr =>
  ⟨v, hs.chg (Chg.of_grown hg) (fun b e _ => by
    obtain ⟨h1, o, h2, h3⟩ := hr b e
    refine ⟨by omega, fun cs T hb => ?_⟩
    unfold Blk at hb
    rw [hb] at h2
    cases h2
    cases h3)⟩
theorem facts (h : NSt w wr ob ao n cap l e r L v) : wr.cell? ⟨w.heap.size, 0, none⟩ = some (.slice ao n cap) ∧
    wr.cell? ⟨w.heap.size + 1, 0, none⟩ = some (.int .i64 l) ∧ wr.cell? ⟨w.heap.size + 1, 1, none⟩ = some (.int .i64 e) ∧ wr.cell? ⟨w.heap.size + 1, 2, none⟩ = some (.int .i64 r) ∧
    wr.cell? ⟨ob, 0, none⟩ = some v ∧ wr.frozen? ⟨ob, 0, none⟩ = false ∧ ob < wr.heap.size :=
  ⟨h.g.cellAt rfl, h.s.cellAt rfl, h.s.cellAt rfl, h.s.cellAt rfl, h.o.cellAt rfl, h.o.frozen 0, h.o.lt⟩
/-- One more, and the variable holds the new slice. -/
theorem app (h : NSt w wr ob ao n cap l e r L v) {w3 : World} {v' : Value} {L' : List TStamp} (ho : OwnL encS w3 (ob + 1) 28 3 v' L') (hb : Below (ob + 1) wr w3) :
    NSt w (w3.setCell ⟨ob, 0, none⟩ v') ob ao n cap l e r L' v' := by
  have h1 := h.o1
  refine ⟨((h.bel.trans (hb.mono (by omega))).setCell (p := ⟨ob, 0, none⟩) (by dsimp only; omega) _), (h.g.below hb (by omega)).set_other (by simp; omega) _, (h.s.below hb (by omega)).set_other (by simp; omega) _, (h.o.below hb (by omega)).set 0 v',
    ho.chg ((Chg.refl (fun k => k = ob) w3).setCell ⟨ob, 0, none⟩ v' (fun _ => rfl)) (fun g hg e => ?_), h1⟩
  have := (World.ownsRow.lt ho g hg).1
  omega
end NSt

def NStE (w : World) (ob : Nat) (ao : Option Addr) (n cap : Nat) (l e r : Int) (L : List TStamp) (wr : World) : Prop := ∃ v, NSt w wr ob ao n cap l e r L v

theorem ownL_shut {α : Type} {enc : α → List Value} {B base size : Nat} {e : TypeId} {w w' : World} {v : Value} {xs : List α} (h : OwnL enc w base e size v xs) (hs : ShutM B w w') : OwnL enc w' base e size v xs := by
  refine ⟨h.1, ?_⟩
  rcases h.2 with h | ⟨g, cap, cur, h1, h2, h3, h4⟩
  · exact .inl h
  · exact .inr ⟨g, cap, cur, h1, h2, by rw [hs.same g (fun x e => by rw [h3] at e; cases e)]; exact h3, h4⟩

theorem okG_in2 {ops : List TOp} (h : (gcheck ops).2 = 0) {b : Nat} {o : TOp} (ho : ops[b]? = some o) : o.fIn.length ≤ 2 := by
  have h1 := ok_at h ho
  unfold okB at h1
  simp only [Bool.and_eq_true, decide_eq_true_eq] at h1
  have hw : wantN o.fKind ≤ 2 := by unfold wantN; split <;> (try split) <;> omega
  omega
theorem insK_le (i : Nat) (ins : List Int) (fr : Int) (k : Nat) : (insK i ins fr k).length ≤ k := by
  unfold insK
  rw [List.length_map]
  exact Nat.le_trans (List.length_filter_le _ _) (by simp)
theorem usesK_le2 {ops : List TOp} (h : (gcheck ops).2 = 0) (fr : Int) : ∀ m, m ≤ ops.length → (usesK ops fr m).length ≤ m * 2
  | 0, _ => by simp [usesK]
  | m + 1, hm => by
    have hx : ops[m]? = some ops[m] := List.getElem?_eq_getElem (by omega)
    rw [usesK_succ ops fr m _ hx, List.length_append]
    have h1 := usesK_le2 h fr m (by omega)
    have h2 := insK_le m ops[m].fIn fr ops[m].fIn.length
    have h3 := okG_in2 h hx
    omega
theorem uses_le' {ops : List TOp} (h : (gcheck ops).2 = 0) (fr : Int) : (usesL ops fr).length ≤ 32 := by
  have h1 := usesK_le2 h fr ops.length (Nat.le_refl _)
  have h2 := (okG_of_check h).most
  unfold usesL
  omega

set_option maxRecDepth 100000 in
set_option maxHeartbeats 4000000 in
theorem next_any (ops : List TOp) (cap : Nat) (ao : Option Addr) (l e r : Int) (B : Nat) (w : World) (hB : B ≤ w.heap.size) (hx : SlA B 7 (ROp B) w ao cap ops) :
    Calls Try.prog 14 #[.agg #[.slice ao ops.length cap], .agg #[.int .i64 l, .int .i64 e, .int .i64 r]] w fun x w' => Below w.heap.size w w' ∧ ∃ v, x = .returned v ∧ OwnL encS w' w.heap.size 28 3 v (nextS ops l e r) := by
  have hGd := fun W hb => Good_any ops cap ao l e r B W (Nat.le_trans hB (Below.size hb)) (imp_ops hx (hb.mono hB))
  by_cases hgood : (decide ((gcheck ops).2 = 0) && goodS ops l e r) = true
  · obtain ⟨hok, hgs⟩ := by simpa [Bool.and_eq_true] using hgood
    rw [hgood] at hGd
    have hG := okG_of_check hok
    obtain ⟨k, rfl, hk⟩ := goodS_in hgs
    obtain ⟨o, ho⟩ : ∃ o, ops[k] = o := ⟨_, rfl⟩
    have hok2 : ops[k]? = some o := by rw [List.getElem?_eq_getElem hk, ho]
    have hr7 := rounds_at hok hok2
    have hgT : goodT ⟨e, r⟩ = true := by
      unfold goodS at hgs
      simp only [Bool.and_eq_true] at hgs
      exact hgs.1.2
    have hnn := goodT_nn hgT
    have hnx : nextS ops k e r = furS ops k e r ++ (usesL ops (k : Nat)).map (useS e) := by unfold nextS; rw [if_pos hgood]
    have hfu : furS ops k e r = if o.fKind = 7 ∧ r < o.fRounds - 1 then [⟨(k : Nat), ⟨e, r + 1⟩⟩] else [] := by unfold furS; rw [opAt_get hok2]
    have hul := uses_le' hok (k : Int)
    obtain ⟨gb, goff, rfl, hgb, hq⟩ := hx.addr (by omega)
    clear hq
    have hl2 : ∀ W : World, Below w.heap.size w W → ∃ ao1 il cap1, W.cell? ⟨gb, goff + k * 7, none⟩ = some (.int .i64 o.fKind) ∧ W.cell? ⟨gb, goff + k * 7 + 1, none⟩ = some (.slice ao1 il cap1) ∧ W.cell? ⟨gb, goff + k * 7 + 2, none⟩ = some (.int .i64 o.fArg) ∧ W.cell? ⟨gb, goff + k * 7 + 3, none⟩ = some (.int .u32 o.fNum) ∧ W.cell? ⟨gb, goff + k * 7 + 4, none⟩ = some (.int .i64 o.fRounds) ∧ W.cell? ⟨gb, goff + k * 7 + 5, none⟩ = some (.int .i64 o.fTest) ∧ W.cell? ⟨gb, goff + k * 7 + 6, none⟩ = some (.int .u32 o.fLim) := fun W hb => by
      obtain ⟨ao1, cap1, e0, e1, e2, e3, e4, e5, e6, _⟩ := ROp.at (imp_ops hx (hb.mono hB)) hk ho
      exact ⟨ao1, _, cap1, e0, e1, e2, e3, e4, e5, e6⟩
    rw [hnx]
    obtain ⟨i0, hi, hz0, hz1, hz2⟩ := info_parts infoS
    obtain ⟨n, hn⟩ : ∃ n, n = ops.length := ⟨_, rfl⟩
    rw [← hn] at hGd hk ⊢
    have hmost : n ≤ 16 := by rw [hn]; exact hG.most
    replace hnx := Lib.hid hnx
    replace hok := Lib.hid hok
    replace hG := Lib.hid hG
    replace hn := Lib.hid hn
    replace hr7 := Lib.hid hr7
    replace hfu := Lib.hid hfu
    replace hl2 := Lib.hid hl2
    replace hgT := Lib.hid hgT
    replace hok2 := Lib.hid hok2
    replace ho := Lib.hid ho
    clear hgood hgs
    refine calls_of_marks Try.func14 rfl ?_
    simp only [Try.ntmps14, List.size_toArray, List.length_cons, List.length_nil, Nat.reduceAdd, Nat.reduceSub, Array.replicate_succ, Array.replicate_zero, List.push_toArray, List.append_toArray, List.nil_append, List.cons_append]
    go_wp2_with fail
    refine (hGd _ ((by repeat (first | exact Below.refl _ _ | assumption | refine below_drewN ?_ _ | refine Below.drew ?_ | (refine Below.setCell ?_ (by first | omega | (simp; omega) | simp) _) | (refine Below.alloc ?_ (by first | omega | (simp; omega) | simp) _) | (refine Below.trans ?_ (Below.mono (by assumption) (by first | omega | (simp; omega) | simp))))))).mono ?_
    rintro x w3 ⟨rfl, b3⟩
    have hbel : Below w.heap.size w w3 := (by repeat (first | exact Below.refl _ _ | assumption | refine below_drewN ?_ _ | refine Below.drew ?_ | (refine Below.setCell ?_ (by first | omega | (simp; omega) | simp) _) | (refine Below.alloc ?_ (by first | omega | (simp; omega) | simp) _) | (refine Below.trans ?_ (Below.mono (by assumption) (by first | omega | (simp; omega) | simp)))))
    have hG3 : Blk w3 w.heap.size #[.slice (some ⟨gb, goff, none⟩) n cap] 24 := ((Blk.new _ _ _).alloc _).below b3 (by simp; omega)
    have hS3 : Blk w3 (w.heap.size + 1) #[.int .i64 k, .int .i64 e, .int .i64 r] 28 := by
      have := Blk.new (w.alloc (.cells #[.slice (some ⟨gb, goff, none⟩) n cap] 24)) #[.int .i64 k, .int .i64 e, .int .i64 r] 28
      rw [World.size_alloc] at this
      exact this.below b3 (by simp)
    clear b3 hGd
    go_upto_region 4 with fail
    obtain ⟨ob, hob⟩ : ∃ ob, ob = w3.heap.size := ⟨_, rfl⟩
    have hN : NSt w (w3.alloc (.cells #[.slice none 0 0] 33)) ob (some ⟨gb, goff, none⟩) n cap k e r [] (.slice none 0 0) := by
      rw [hob]
      exact ⟨hbel.alloc hbel.size _, hG3.alloc _, hS3.alloc _, Blk.new _ _ _, OwnL.nil _ _ _ _ _, hS3.lt⟩
    rw [← hob]
    generalize w3.alloc (.cells #[.slice none 0 0] 33) = w4 at hN ⊢
    clear hbel hG3 hS3 hob w3
    obtain ⟨ao1, il, cap1, f0, f1, f2, f3, f4, f5, f6⟩ := hl2.out w4 hN.bel
    obtain ⟨c0, c1, c2, c3, c4, c5, cl⟩ := hN.facts
    have hgw : gb < w4.heap.size := by have := hN.bel.size; omega
    have hol := hN.o1
    go_upto_region 5 with fail
    obtain ⟨kb, hkb⟩ : ∃ kb, kb = w4.heap.size := ⟨_, rfl⟩
    rw [← hkb]
    generalize hw5 : w4.alloc (.cells #[.int .i64 o.fKind, .slice ao1 il cap1, .int .i64 o.fArg, .int .u32 o.fNum, .int .i64 o.fRounds, .int .i64 o.fTest, .int .u32 o.fLim] 50) = w5
    have hN5 : NSt w w5 ob (some ⟨gb, goff, none⟩) n cap k e r [] (.slice none 0 0) := by
      rw [← hw5]; exact hN.below ((Below.refl _ _).alloc (Nat.le_refl _) _)
    have hK5 : Blk w5 kb #[.int .i64 o.fKind, .slice ao1 il cap1, .int .i64 o.fArg, .int .u32 o.fNum, .int .i64 o.fRounds, .int .i64 o.fTest, .int .u32 o.fLim] 50 := by
      rw [← hw5, hkb]; exact Blk.new _ _ _
    clear c0 c1 c2 c3 c4 c5 cl f0 f1 f2 f3 f4 f5 f6 hgw hN hw5 hkb w4
    obtain ⟨c0, c1, c2, c3, c4, c5, cl⟩ := hN5.facts
    have k0 := hK5.cellAt (i := 0) (v := .int .i64 o.fKind) rfl
    have k4 := hK5.cellAt (i := 4) (v := .int .i64 o.fRounds) rfl
    generalize o.fKind = ki at *
    generalize o.fRounds = ro at *
    have hk5l := hK5.lt
    clear hK5
    obtain ⟨c, hc⟩ : ∃ c, c = (ki == 7 && decide (r < ro - 1)) := ⟨_, rfl⟩
    have hct : c = true → ki = 7 ∧ r < ro - 1 ∧ furS ops k e r = [⟨(k : Nat), ⟨e, r + 1⟩⟩] := fun h => by
      rw [hc] at h
      simp only [Bool.and_eq_true, beq_iff_eq, decide_eq_true_eq] at h
      exact ⟨h.1, h.2, by rw [hfu.out, if_pos h]⟩
    have hcf : c = false → furS ops k e r = [] := fun h => by
      rw [hc] at h
      rw [hfu.out, if_neg]
      rintro ⟨h1, h2⟩
      rw [h1, decide_eq_true h2] at h
      cases h
    replace hc := Lib.hid hc
    replace hct := Lib.hid hct
    replace hcf := Lib.hid hcf
    clear hfu
    go_cut [31] from 20 to 31 (fun s wx => s = .bool c ∧ w5 = wx)
    case first =>
      cases c7 : (ki == 7) with
      | true =>
        have hr := hr7.out (by simpa using c7)
        have hr1 : 1 ≤ ro := hr.1
        have hr2 : ro ≤ 16 := hr.2
        clear hr
        go_wp2_with fail
        go_meet
        case rel => exact ⟨by rw [hc.out, c7]; rfl, rfl⟩
      | false =>
        go_wp2_with fail
        go_meet
        case rel => exact ⟨by rw [hc.out, c7]; rfl, rfl⟩
    case rest =>
      obtain ⟨rfl, rfl⟩ := hcut
      clear c0 c1 c2 c3 c4 c5 cl k0 k4 hk5l
      go_upto_if 31 with fail
      go_cut [7, 8] from 32 to 44 (fun _ _ wx => NStE w ob (some ⟨gb, goff, none⟩) n cap k e r (furS ops k e r) wx)
      case first =>
        obtain ⟨c0, c1, c2, c3, c4, c5, cl⟩ := hN5.facts
        cases c with
        | true =>
          obtain ⟨h7, hlt, hf2⟩ := hct.out (by trivial)
          have hr := hr7.out h7
          have har := fun W => around_ok e r W hgT.out (by omega)
          have hrb : r + 1 ≤ 9223372036854775807 := by omega
          replace hf2 := Lib.hid hf2
          clear hr h7 hlt
          go_wp2_with fail
          refine (har _).mono ?_
          rintro x w6 ⟨rfl, b6⟩
          have hN6 := hN5.below b6
          clear c0 c1 c2 c3 c4 c5 cl har b6
          have hN7 := hN6.below (((Below.refl _ w6).alloc (Nat.le_refl _) (.cells #[.int .i64 e, .int .i64 (r + 1)] 26)))
          have hT7 := Blk.new w6 #[.int .i64 e, .int .i64 (r + 1)] 26
          have hL := OwnL.nil encS (w6.alloc (.cells #[.int .i64 e, .int .i64 (r + 1)] 26)) (ob + 1) 28 3
          obtain ⟨c0, c1, c2, c3, c4, c5, cl⟩ := hN7.facts
          have t0 := hT7.cellAt (i := 0) (v := .int .i64 e) rfl
          have t1 := hT7.cellAt (i := 1) (v := .int .i64 (r + 1)) rfl
          have hsz7 : ob + 1 ≤ (w6.alloc (.cells #[.int .i64 e, .int .i64 (r + 1)] 26)).heap.size := cl
          dsimp only
          go_upto_region 7 with fail
          generalize (w6.alloc (.cells #[.int .i64 e, .int .i64 (r + 1)] 26)) = w7 at *
          generalize w6.heap.size = tb at *
          go_wp2_with (at_builtin; (refine wpList_app1 rfl _ _ 33 rfl Try.underlying33 hi hz0 hz1 hz2 rfl (by decide) (enc := encS) ⟨(k : Nat), ⟨e, r + 1⟩⟩ rfl hL rfl (encS_len _) (encS_one _) ?hb1 ?hb2 ?hb3 ?next))
          case hb1 => simp
          case hb2 => unfold maxLen; simp
          case hb3 => exact hsz7
          case next =>
            intro a1 cp1 w8 hown8 hb8 hgr
            have hN8 := hN7.app hown8 hb8
            have hol := hN7.o.below hb8 (Nat.lt_succ_self _)
            have c9 := hol.cellAt (i := 0) (v := .slice none 0 0) rfl
            have c10 := hol.frozen 0
            clear hb8 hgr hown8 hN7 hL c0 c1 c2 c3 c4 c5 cl t0 t1 hT7
            go_wp2_with fail
            go_meet
            case rel => exact ⟨_, by rw [hf2.out]; exact hN8⟩
        | false =>
          go_wp2_with fail
          go_meet
          case rel => exact ⟨_, by rw [hcf.out (by trivial)]; exact hN5⟩
      case rest =>
        clear hN5 hct hcf hc hr7 w5
        obtain ⟨v0, hN6⟩ := hcut
        obtain ⟨L0, hL0⟩ : ∃ L, L = furS ops k e r := ⟨_, rfl⟩
        rw [← hL0] at hN6
        have hL0l : L0.length ≤ 1 := by rw [hL0]; unfold furS; split <;> simp
        replace hL0 := Lib.hid hL0
        obtain ⟨c0, c1, c2, c3, c4, c5, cl⟩ := hN6.facts
        go_wp2_with fail
        refine (callsIn_wide.1 (uses_in Fence.wide 8 trivial rfl (some ⟨gb, goff, none⟩) n cap k wc)).mono ?_
        rintro x w7 ⟨rfl, hw7⟩
        have hbe : Below wc.heap.size wc w7 := by rw [hw7]; exact ((Below.refl _ _).alloc (Nat.le_refl _) _).alloc (by simp) _
        have hN7 := hN6.below hbe
        have hu := ((Hd.nil wc).alloc (.slice (some ⟨gb, goff, none⟩) n cap) 24).alloc (.int .i64 k) 3
        rw [World.size_alloc, ← hw7] at hu
        have hub3 := hN6.bel.size
        have hul2 := hbe.size
        have hobu : ob < wc.heap.size := cl
        generalize wc.heap.size = ub at hu hub3 hul2 hobu ⊢
        clear hw7 hN6 hbe c0 c1 c2 c3 c4 c5 cl
        go_upto_region 100 with fail
        have u1 := hu.cell (b := ub) (v := .slice (some ⟨gb, goff, none⟩) n cap) (T := 24) (by simp)
        have u2 := hu.blk (b := ub + 1) (v := .int .i64 k) (T := 3) (by simp)
        have u2c := u2.cellAt (i := 0) (v := .int .i64 k) rfl
        have hu1l : ub < w7.heap.size := World.lt_of_cell u1
        have hu2l : ub + 1 < w7.heap.size := u2.lt
        rw [hn.out] at u1
        have hsq := uses_stops Fence.wide (8 - 1) trivial rfl (by omega) ub (ub + 1) w.heap.size (fun i => i < w.heap.size ∨ i = ub + 1) ops (some ⟨gb, goff, none⟩) cap (k : Int) w7
          (fun i hi => .inl hi) (.inr rfl) (fun i hi => by have := hN7.bel.size; rcases hi with hi | rfl <;> omega) hu1l (by exact (imp_ops hx (hN7.bel.mono hB)).imp (Below.refl _ _) hB (fun cs x _ h => h.imp (Below.refl _ _) hB)) u1 u2c
        have h0 : ∃ v, NSt w w7 ob (some ⟨gb, goff, none⟩) n cap k e r (L0 ++ (([] : List (UseOf ops k)).map (·.1)).map (useS e)) v := ⟨v0, by simpa using hN7⟩
        refine (wpIn_wide (n := 8)).1 ?_
        refine wpIn_rangeFunc_ownG (α := UseOf ops k) rfl (by omega) (gf := 46) (lb := #[.pointer (some ⟨ub, 0, none⟩), .pointer (some ⟨ub + 1, 0, none⟩)]) rfl trivial (enters_of Try.func46 (by kernel_rfl) rfl)
          hsq KeepS.trans (fun W l o o' h1 h2 h3 h4 => keepS_put o' (by have := hN7.bel.size; rintro (h | h) <;> omega)) (Below.refl _ _) (fun _ => rfl)
          (fun pre W => (∃ v, NSt w W ob (some ⟨gb, goff, none⟩) n cap k e r (L0 ++ (pre.map (·.1)).map (useS e)) v) ∧ Hd [(ub + 1, .int .i64 k, 3)] W)
          (fun _ _ _ => False) (OwnFrom.and (NSt.ownF _ hN7.bel.size) (Hd.own _ _)) (fun _ _ _ _ _ h _ _ => h) ⟨h0, hu.sub (by simp)⟩ ?a1 ?assign ?body ?done ?stop
        case assign =>
          intro l x W K hK
          gi_wp2
          exact hK
        case stop =>
          rintro D c pre W _ _ h _
          exact h.elim
        case done =>
          rintro D ys W hD hys ⟨⟨v, hN8⟩, _⟩ hK
          have hb9 := hN8.bel
          rw [hys] at hN8
          obtain ⟨c0, c1, c2, c3, c4, c5, cl⟩ := hN8.facts
          have hDs : w.heap.size ≤ D := by have := hN7.bel.size; omega
          clear hsq hN7 h0 hu u1 u2 u2c
          dsimp only
          go_wp2_with fail
          refine leavesM_marks [{ target := .collected D, args := #[] }] W ⟨D, rfl, hDs, hK, by simp, trivial⟩ hb9.size (fun w' hs => ⟨_, results_tmp rfl _ _ _, hb9.trans hs.below, v, rfl, ?_⟩)
          rw [← hL0.out]
          exact ownL_shut (hN8.own.base_le (by have := hN8.o1; omega)) hs
        case body =>
          rintro l pre x W ⟨⟨v, hN8⟩, hu8⟩ hpl
          obtain ⟨⟨b, kx⟩, hxu⟩ := x
          obtain ⟨LL, hLL⟩ : ∃ LL, LL = L0 ++ (pre.map (·.1)).map (useS e) := ⟨_, rfl⟩
          have hLl : LL.length ≤ 33 := by
            rw [hLL]
            simp only [List.length_append, List.length_map]
            omega
          have hLn : L0 ++ ((pre ++ [(⟨(b, kx), hxu⟩ : UseOf ops k)]).map (·.1)).map (useS e) = LL ++ [⟨(b : Nat), ⟨e, 0⟩⟩] := by rw [hLL]; simp [useS]
          rw [← hLL] at hN8
          replace hLn := Lib.hid hLn
          obtain ⟨av, cv, rfl, _, _, _⟩ := hN8.own.slice
          obtain ⟨nl, hnl⟩ : ∃ nl, nl = LL.length := ⟨_, rfl⟩
          rw [← hnl] at hN8
          replace hnl := Lib.hid hnl
          have hub8 := hu8.blk (b := ub + 1) (v := .int .i64 k) (T := 3) (by simp)
          obtain ⟨c0, c1, c2, c3, c4, c5, cl⟩ := hN8.facts
          replace hLL := Lib.hid hLL
          dsimp only
          gi_wp2
          refine round_region_calm _ (fun wx => wx.cell? ⟨ob, 0, none⟩ = some (.slice av nl cv) ∧ wx.cell? ⟨w.heap.size + 1, 0, none⟩ = some (.int .i64 k) ∧ wx.cell? ⟨w.heap.size + 1, 1, none⟩ = some (.int .i64 e) ∧ wx.cell? ⟨w.heap.size + 1, 2, none⟩ = some (.int .i64 r)) 7 [4, 6] (by kernel_rfl)
            (fun h => by obtain ⟨a, w, h⟩ := h; exact h) (by kernel_rfl) (by kernel_rfl) (fun d _ _ _ _ h => by cases d <;> exact h) ⟨c4, c1, c2, c3⟩ (fun hHeld => ?_)
          simp only [List.take_succ_cons, List.take_zero, List.drop_succ_cons, List.drop_zero]
          iterate 4 (refine wpCalm_q0 rfl rfl ⟨?_, ?_, ?_⟩; rotate_left; (focus (intro wx hSx; (try dsimp only at hSx); go_simp; (try with_reducible rfl))); (simp only [Act.put, List.setIfInBounds_toArray, List.set_cons_zero, List.set_cons_succ]))
          refine wpCalm_s rfl rfl (fun K' hK => ?_)
          go_simp
          refine (out_any e r _).mono ?_
          rintro x w9 ⟨rfl, b9⟩
          dsimp only
          have hN9 : NSt w w9 ob (some ⟨gb, goff, none⟩) n cap k e r LL (.slice av nl cv) := hN8.below (((Below.refl _ _).drew).trans b9)
          have hc9 : Chg (fun k => k = ob ∨ (Value.slice av nl cv).ownBlock = some k) W w9 := ((Chg.refl _ W).drew).then_new (Chg.of_below b9) (fun i h1 h2 => by have h3 : W.heap.size ≤ i := h2; omega)
          clear c0 c1 c2 c3 c4 c5 cl hHeld
          obtain ⟨c0, c1, c2, c3, c4, c5, cl⟩ := hN9.facts
          refine hK.out _ _ ⟨c4, c1, c2, c3⟩ ?_
          clear hK K'
          try simp only [Act.put, List.setIfInBounds_toArray, List.set_cons_zero, List.set_cons_succ]
          (refine wpCalm_q0 rfl rfl ⟨?_, ?_, ?_⟩; rotate_left; (focus (intro wx hSx; (try dsimp only at hSx); go_simp; (try with_reducible rfl))); (simp only [Act.put, List.setIfInBounds_toArray, List.set_cons_zero, List.set_cons_succ]))
          refine wpCalm_s rfl rfl (fun K' hK => ?_)
          go_simp
          refine hK.out _ _ ⟨(hN9.o.alloc _).cellAt rfl, (hN9.s.alloc _).cellAt rfl, (hN9.s.alloc _).cellAt rfl, (hN9.s.alloc _).cellAt rfl⟩ ?_
          clear hK K'
          try simp only [Act.put, List.setIfInBounds_toArray, List.set_cons_zero, List.set_cons_succ]
          refine wpCalm_nil ?_
          have hown9 := hN9.own
          have hbz9 : ob + 1 ≤ w9.heap.size := cl
          have hub9 := (hub8.drew).below b9 (hub8.drew).lt
          go_wp2_with (at_builtin; (refine wpList_app1 rfl _ _ 33 rfl Try.underlying33 hi hz0 hz1 hz2 rfl (by decide) (enc := encS) ⟨(b : Nat), ⟨e, 0⟩⟩ rfl hown9 rfl (encS_len _) (encS_one _) ?hc1 ?hc2 ?hc3 ?nextb))
          case hc1 => omega
          case hc2 => unfold maxLen; omega
          case hc3 => exact hbz9
          case nextb =>
            intro a1 cp1 w10 hown10 hb10 hgr
            have hN10 := hN9.app hown10 hb10
            have hol10 := hN9.o.below hb10 (Nat.lt_succ_self _)
            have d4 := hol10.cellAt (i := 0) (v := .slice av nl cv) rfl
            have d5 := hol10.frozen 0
            have hc10 : Chg (fun k => k = ob ∨ (Value.slice av nl cv).ownBlock = some k) W (w10.setCell ⟨ob, 0, none⟩ (.slice (some a1) (LL.length + 1) cp1)) := (hc9.then_new (Chg.of_grown hgr) (fun i h1 h2 => .inr h2)).setCell _ _ (fun _ => .inl rfl)
            clear c0 c1 c2 c3 c4 c5 cl
            rw [← hnl.out] at hN10 hc10 hown10 ⊢
            have hrow : ∀ g, (Value.slice av nl cv).ownBlock = some g → ob + 1 ≤ g ∧ ∃ cells, Blk W g cells 28 := fun g hg => by
              rcases hN8.own.form with ⟨h1, _⟩ | ⟨g', cap', cells, h1, h2, _, _, _, h6, _⟩
              · rw [h1] at hg; cases hg
              · rw [h1] at hg
                obtain rfl : g' = g := by simpa [Value.ownBlock] using hg
                exact ⟨h6, _, h2⟩
            have hnS : ¬ (ub + 1 = ob ∨ (Value.slice av nl cv).ownBlock = some (ub + 1)) := by
              rintro (h | h)
              · omega
              · obtain ⟨_, cells, h2⟩ := hrow _ h
                exact absurd (blk_inj hub8 h2).2 (by decide)
            go_wp2_with fail
            gi_wp2
            refine ⟨keepsFrom_of_chg hc10 (fun j hj _ => ?_), keepS_chg hc10 (fun j hj => ?_), ⟨_, by rw [hLn.out]; exact hN10⟩, (Hd.nil _).cons (hub8.chg hc10 hnS)⟩
            · rcases hj with rfl | hj
              · exact ⟨_, _, _, hN8.o⟩
              · obtain ⟨_, cells, h2⟩ := hrow _ hj
                exact ⟨_, _, _, h2⟩
            · rcases hj with hj | rfl
              · refine ⟨Nat.lt_of_lt_of_le hj hN8.bel.size, ?_⟩
                rintro (h | h)
                · omega
                · have := (hrow _ h).1
                  omega
              · exact ⟨hub8.lt, hnS⟩
  · rw [show nextS ops l e r = [] by unfold nextS; rw [if_neg hgood]]
    rw [Bool.not_eq_true] at hgood
    rw [hgood] at hGd
    clear hgood
    generalize ops.length = n at hGd ⊢
    refine calls_of_marks Try.func14 rfl ?_
    simp only [Try.ntmps14, List.size_toArray, List.length_cons, List.length_nil, Nat.reduceAdd, Nat.reduceSub, Array.replicate_succ, Array.replicate_zero, List.push_toArray, List.append_toArray, List.nil_append, List.cons_append]
    go_wp2_with fail
    refine (hGd _ ((by repeat (first | exact Below.refl _ _ | assumption | refine below_drewN ?_ _ | refine Below.drew ?_ | (refine Below.setCell ?_ (by first | omega | (simp; omega) | simp) _) | (refine Below.alloc ?_ (by first | omega | (simp; omega) | simp) _) | (refine Below.trans ?_ (Below.mono (by assumption) (by first | omega | (simp; omega) | simp))))))).mono ?_
    rintro x w3 ⟨rfl, b3⟩
    have hbel : Below w.heap.size w w3 := (by repeat (first | exact Below.refl _ _ | assumption | refine below_drewN ?_ _ | refine Below.drew ?_ | (refine Below.setCell ?_ (by first | omega | (simp; omega) | simp) _) | (refine Below.alloc ?_ (by first | omega | (simp; omega) | simp) _) | (refine Below.trans ?_ (Below.mono (by assumption) (by first | omega | (simp; omega) | simp)))))
    go_wp2_with fail
    exact ⟨_, results_tmp rfl _ _ _, hbel, _, rfl, OwnL.nil _ _ _ _ _⟩
end Go.Proofs.Ytbiakolkcikeiaa
