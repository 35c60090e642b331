/- Model: the example. -/
import Derived.Test.YtbianedgogdeeaaMu
namespace Go.Proofs.Ytbianedgogdeeaa
open Go.RowKit Go.Maps Fold Go.Lib
attribute [local go_sem] Oper.semAt_some
set_option linter.unusedVariables false
set_option linter.unusedSimpArgs false

/-- A record as it lies. -/
def encD (r : TRecord) : List Value := [.int .i64 r.fProducer, .int .i64 r.fSeq, .int .i64 r.fPart, .string r.fKey, .int .u32 r.fVal]
def wfD (r : TRecord) : Prop := (Lit.int .i64 r.fProducer).wf = true ∧ (Lit.int .i64 r.fSeq).wf = true ∧ (Lit.int .i64 r.fPart).wf = true ∧ r.fKey.size ≤ maxLen ∧ (Lit.int .u32 r.fVal).wf = true
theorem encD_r {B : Nat} {w : World} {r : TRecord} (h : wfD r) : RRecord B w (encD r) r := ⟨rfl, h.1, h.2.1, h.2.2.1, h.2.2.2.1, h.2.2.2.2⟩
theorem RRecord.enc {B : Nat} {w : World} {cs : List Value} {r : TRecord} (h : RRecord B w cs r) : cs = encD r ∧ wfD r := by
  obtain ⟨rfl, h0, h1, h2, h3, h4⟩ := h
  exact ⟨rfl, h0, h1, h2, h3, h4⟩
/-- A row, written out. -/
theorem sla_lit {α : Type} {enc : α → List Value} {sz : Nat} {w : World} {b : Nat} {T : TypeId} {xs : List α} {n : Nat} {cs : Array Value} (hb : Blk w b cs T) (hn : n = xs.length) (hc : cs = (xs.flatMap enc).toArray) (hk : ∀ x, (enc x).length = sz) (hl : xs.length ≤ maxLen) : SlA w.heap.size sz (fun _ cs x => cs = enc x) w (some ⟨b, 0, none⟩) n xs := by
  subst hn hc
  refine SlA.of_blk hb hb.lt (Nat.le_refl _) hl (fun i hi => ⟨enc xs[i], hk _, fun j hj => ?_, rfl⟩)
  rw [List.getElem?_toArray]
  exact flat_at hk xs i j hi hj

def K2 : PRS := [(⟨#[97]⟩, 4), (⟨#[98]⟩, 2)]
set_option maxRecDepth 100000 in
set_option maxHeartbeats 4000000 in
theorem mknown_any (w : World) : Calls Try.prog 12 #[] w fun e w' => e = .returned (.bool true) ∧ Below w.heap.size w w' := by
  have hsu := sums_any w
  replace hsu := Lib.hid hsu
  go_enter Try.func12, Try.ntmps12
  go_wp2_with (go_at_call 20; refine Shut.out ?ka)
  unfold Shut
  refine hsu.out.mono ?_
  rintro e w1 ⟨gb, i1, i2, rfl, hS1, hb1⟩
  have hrb := Blk.new w1 (recsK.flatMap encD).toArray 47
  have hb2 : Below w1.heap.size w1 (w1.alloc (.cells (recsK.flatMap encD).toArray 47)) := belowAlloc _ _
  have hS2 := hS1.below hb2
  have hrs := sla_lit (enc := encD) (sz := 5) hrb (n := 3) rfl rfl (fun _ => rfl) (by unfold maxLen; decide)
  have hrs2 := hrs.imp (Below.refl _ _) (Nat.le_refl _) (E' := RRecord (w1.alloc (.cells (recsK.flatMap encD).toArray 47)).heap.size) (fun cs x hx h => by
    rw [h]
    refine encD_r ?_
    simp only [recsK, List.mem_cons, List.not_mem_nil, or_false] at hx
    rcases hx with rfl | rfl | rfl <;> exact ⟨rfl, rfl, rfl, by unfold maxLen; decide, rfl⟩)
  have hrun := run_any (sumsOps 0) [] recsK (some ⟨gb, 0, none⟩) none (some ⟨w1.heap.size, 0, none⟩) 3 0 3 _ _ (Nat.le_refl _) (hS2.sla rfl) (SlA.nil _ _ _ _) hrs2 (fun l hl => by cases hl) (fun l hl => by cases hl)
  rw [sums_known] at hrun
  change Calls _ _ _ _ (RunPost _ (K2, [[], K2, []], 0)) at hrun
  replace hrun := Lib.hid hrun
  have hbw2 := hb1.trans (hb2.mono hb1.size)
  clear hrs hrs2 hrb hsu hS1 hb2 hb1
  dsimp only
  go_wp2_with (go_at_call 10; refine Shut.out ?kb)
  unfold Shut
  refine hrun.out.mono ?_
  rintro e w3 ⟨v, sv, rfl, hown, hst, hb3⟩
  obtain ⟨so, sc, rfl, hA3⟩ := hst.sta
  obtain ⟨ao, ac, rfl, hP3⟩ := OwnR.pra hown
  have hbw3 := hbw2.trans (hb3.mono hbw2.size)
  obtain ⟨sb, soff, rfl, hsb, _⟩ := hA3.addr (by decide)
  obtain ⟨xo, xc, e1, hX3⟩ := StA.at hA3 (i := 1) (by decide)
  change PrA _ _ _ _ K2 at hX3
  change _ = some (Value.slice xo 2 xc) at e1
  clear hst hown hrun hb3 hbw2 hS2
  rw [show List.length ((K2, ([[], K2, []] : ST), (0 : Nat)) : PRS × ST × Nat).1 = 2 from rfl, show List.length ((K2, ([[], K2, []] : ST), (0 : Nat)) : PRS × ST × Nat).2.1 = 3 from rfl, show ((K2, ([[], K2, []] : ST), (0 : Nat)) : PRS × ST × Nat).2.2 = 0 from rfl]
  change PrA _ _ _ _ K2 at hP3
  dsimp only
  rw [show ((0 : Nat) : Int) = 0 from rfl]
  go_upto_region 2 with fail
  refine Code.wp_world ?_
  intro w4 hw4
  have hb4 : Below w3.heap.size w3 w4 := by rw [hw4]; exact belowAlloc _ _
  have hs4 : Blk w4 w3.heap.size #[.slice (some ⟨sb, soff, none⟩) 3 sc] 27 := by rw [hw4]; exact Blk.new _ _ _
  have hP4 := hP3.imp' hb4 hb4.size
  have hX4 := hX3.imp' hb4 hb4.size
  have e14 := (hb4.cell (p := ⟨sb, soff + 1, none⟩) hsb).trans e1
  have hsb4 := Nat.lt_of_lt_of_le hsb hb4.size
  have hbw4 := hbw3.trans (hb4.mono hbw3.size)
  obtain ⟨z, hz⟩ : ∃ z, z = w3.heap.size := ⟨_, rfl⟩
  rw [← hz] at hs4 ⊢
  clear hw4 hP3 hX3 e1 hsb hb4 hbw3 hz
  have hb5 : Below w4.heap.size w4 (w4.alloc (.cells (K2.flatMap encR).toArray 53)) := belowAlloc _ _
  have hL5 := sla_lit (enc := encR) (sz := 2) (Blk.new w4 (K2.flatMap encR).toArray 53) (n := 2) (xs := K2) rfl rfl (fun _ => rfl) (by unfold maxLen; decide)
  have hsm1 := same_any K2 K2 ao (some ⟨w4.heap.size, 0, none⟩) ac 2 _ _ (Nat.le_refl _) (hP4.imp' hb5 hb5.size) hL5
  rw [decide_eq_true rfl] at hsm1
  have hs5 := hs4.below hb5 hs4.lt
  have hP5 := hP4.imp' hb5 hb5.size
  have hX5 := hX4.imp' hb5 hb5.size
  have e15 := (hb5.cell (p := ⟨sb, soff + 1, none⟩) hsb4).trans e14
  have hsb5 := Nat.lt_of_lt_of_le hsb4 hb5.size
  have hbw5 := hbw4.trans (hb5.mono hbw4.size)
  replace hsm1 := Lib.hid hsm1
  clear hP4 hX4 e14 hsb4 hbw4 hb5 hL5
  go_wp2_with (go_at_call 13; refine Shut.out ?kc)
  unfold Shut
  refine hsm1.out.mono ?_
  rintro e w6 ⟨rfl, hb6⟩
  have hs6 := hs5.below hb6 hs5.lt
  have hP6 := hP5.imp' hb6 hb6.size
  have hX6 := hX5.imp' hb6 hb6.size
  have e16 := (hb6.cell (p := ⟨sb, soff + 1, none⟩) hsb5).trans e15
  have hsb6 := Nat.lt_of_lt_of_le hsb5 hb6.size
  have hbw6 := hbw5.trans (hb6.mono hbw5.size)
  have c6 := hs6.cellAt (i := 0) (v := .slice (some ⟨sb, soff, none⟩) 3 sc) rfl
  have hsm2 := same_any K2 K2 xo ao xc ac _ w6 (Nat.le_refl _) hX6 hP6
  rw [decide_eq_true rfl] at hsm2
  replace hsm2 := Lib.hid hsm2
  clear hs5 hP5 hX5 e15 hsb5 hbw5 hb6 hsm1 hs4
  dsimp only
  go_wp2_with (go_at_call 13; refine Shut.out ?kd)
  unfold Shut
  refine hsm2.out.mono ?_
  rintro e w7 ⟨rfl, hb7⟩
  have hbw7 := hbw6.trans (hb7.mono hbw6.size)
  dsimp only
  go_wp2_with fail
  go_ret
  exact ⟨rfl, hbw7⟩
end Go.Proofs.Ytbianedgogdeeaa
