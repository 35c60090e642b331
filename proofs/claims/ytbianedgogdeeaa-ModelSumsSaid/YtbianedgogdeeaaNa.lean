/- Model: the walk of ModelEpochs. -/
import Derived.Test.YtbianedgogdeeaaMy
import Derived.Laws.StructEq
namespace Go.Proofs.Ytbianedgogdeeaa
open Go.RowKit Go.Maps Fold Go.Lib
attribute [local go_sem] Oper.semAt_some
set_option linter.unusedVariables false
set_option linter.unusedSimpArgs false

theorem blk_ne {w : World} {a b : Nat} {cs ds : Array Value} {T U : TypeId} (h : Blk w a cs T) (k : Blk w b ds U) (hT : T ≠ U) : a ≠ b := fun e => by
  subst e
  unfold Blk at h k
  rw [h] at k
  simp only [Option.some.injEq, Obj.cells.injEq] at k
  exact hT k.2.1
theorem slaDropIf {α : Type} {B sz : Nat} {a : Addr} {E : World → List Value → α → Prop} {w : World} {cap : Nat} {xs : List α} (h : SlA B sz E w (some a) cap xs) (k : Nat) (hk : k ≤ xs.length) : SlA B sz E w (if cap = k then some a else some (a.add (k * sz))) (cap - k) (xs.drop k) := by
  by_cases hd : xs.drop k = []
  · rw [hd]
    have h2 := h.2.1
    refine ⟨Nat.zero_le _, by omega, fun e => ?_, fun h => absurd rfl h⟩
    split at e <;> cases e
  · have hlt : k < xs.length := by
      rcases Nat.lt_or_ge k xs.length with h | h
      · exact h
      · exact absurd (List.drop_of_length_le h) hd
    obtain ⟨b, off, he, _, _⟩ := h.2.2.2 (fun e => by rw [e] at hlt; simp at hlt)
    simp only [Option.some.injEq] at he
    subst he
    have h1 := h.1
    rw [if_neg (by omega)]
    have e : (⟨b, off, none⟩ : Addr).add (k * sz) = ⟨b, off + k * sz, none⟩ := by simp [Addr.add]
    rw [e]
    exact slaDrop h k hk (some ⟨b, off + k * sz, none⟩) (cap - k) (.inl ⟨rfl, rfl⟩)
theorem SumsAt.setArg {w : World} {base gb i1 i2 : Nat} {arg : Int} (h : SumsAt w base gb i1 i2 arg) (a : Int) : SumsAt (w.setCell ⟨gb, 9, none⟩ (.int .i64 a)) base gb i1 i2 a :=
  ⟨h.ops.set 9 (.int .i64 a), h.in1.set_other (blk_ne h.in1 h.ops (by decide)) _, h.in2.set_other (blk_ne h.in2 h.ops (by decide)) _, h.b0, h.b1, h.b2⟩
theorem StO.chg {w w' : World} {base : Nat} {sv : Value} {st : ST} {S : Nat → Prop} (h : StO w base sv st) (hc : Chg S w w') (hS : ∀ k, S k → ∃ cs, Blk w k cs 27) : StO w' base sv st := by
  rcases h with h | ⟨nr, ns, rfl, hB, h1, hl, h0, hr⟩
  · exact .inl h
  · refine .inr ⟨nr, ns, rfl, hB.chg hc (fun s => ?_), h1, hl, h0, fun j hj => ?_⟩
    · obtain ⟨cs, hb⟩ := hS _ s
      exact blk_ne hB hb (by decide) rfl
    · obtain ⟨v, h2, h3⟩ := hr j hj
      exact ⟨v, h2, h3.chg hc (fun g e s => by
        obtain ⟨cs, hb⟩ := hS g s
        exact h3.ne_blk hb (by decide) e)⟩
theorem StO.base_le {w : World} {base base' : Nat} {sv : Value} {st : ST} (h : StO w base sv st) (hb : base' ≤ base) : StO w base' sv st := by
  rcases h with h | ⟨nr, ns, rfl, hB, h1, hl, h0, hr⟩
  · exact .inl h
  · exact .inr ⟨nr, ns, rfl, hB, Nat.le_trans hb h1, hl, h0, fun j hj => by
      obtain ⟨v, h2, h3⟩ := hr j hj
      exact ⟨v, h2, h3.base_le hb⟩⟩
theorem OwnR.chgS {w w' : World} {base : Nat} {v : Value} {l : PRS} {S : Nat → Prop} (h : OwnR w base v l) (hc : Chg S w w') (hS : ∀ k, S k → ∃ cs, Blk w k cs 27) : OwnR w' base v l :=
  h.chg hc (fun g e s => by
    obtain ⟨cs, hb⟩ := hS g s
    exact h.ne_blk hb (by decide) e)
theorem StO.rd {w : World} {base n sc : Nat} {so : Option Addr} {st : ST} (h : StO w base (.slice so n sc) st) : n = st.length ∧ StA w w.heap.size so sc st := by
  obtain ⟨so', sc', he, hA⟩ := h.sta
  simp only [Value.slice.injEq] at he
  obtain ⟨rfl, rfl, rfl⟩ := he
  exact ⟨rfl, hA⟩
theorem OwnR.rd {w : World} {base n ac : Nat} {ao : Option Addr} {l : PRS} (h : OwnR w base (.slice ao n ac) l) : n = l.length ∧ PrA w.heap.size w ao ac l := by
  obtain ⟨ao', ac', he, hA⟩ := OwnR.pra h
  simp only [Value.slice.injEq] at he
  obtain ⟨rfl, rfl, rfl⟩ := he
  exact ⟨rfl, hA⟩
/-- What Run hands back: rows of its own. -/
theorem RunPost.own {w w' : World} {R : PRS × ST × Nat} {e : Ending} (h : RunPost w R e w') : ∃ ao ac so sc, e = .returned (.tuple #[.slice ao R.1.length ac, .agg #[.slice so R.2.1.length sc], .int .i64 (R.2.2 : Nat)]) ∧ OwnR w' w.heap.size (.slice ao R.1.length ac) R.1 ∧ StO w' w.heap.size (.slice so R.2.1.length sc) R.2.1 ∧ Below w.heap.size w w' := by
  obtain ⟨v, sv, rfl, h1, h2, h3⟩ := h
  obtain ⟨ao, ac, rfl, h4⟩ := OwnR.pra h1
  obtain ⟨so, sc, rfl, h5⟩ := h2.sta
  exact ⟨ao, ac, so, sc, rfl, h1, h2, h3⟩
/-- A state in a box. -/
structure SvB (w : World) (base zb : Nat) (so : Option Addr) (n sc : Nat) (st : ST) : Prop where
  box : Blk w zb #[.slice so n sc] 27
  own : StO w base (.slice so n sc) st
theorem SvB.below {w w' : World} {base zb n sc : Nat} {so : Option Addr} {st : ST} (h : SvB w base zb so n sc st) (hb : Below w.heap.size w w') : SvB w' base zb so n sc st := ⟨h.box.below hb h.box.lt, h.own.below hb⟩
theorem SvB.cell {w : World} {base zb n sc : Nat} {so : Option Addr} {st : ST} (h : SvB w base zb so n sc st) : w.cell? ⟨zb, 0, none⟩ = some (.slice so n sc) := h.box.cellAt rfl
theorem SvB.set {w : World} {base zb z n sc : Nat} {so : Option Addr} {st : ST} {x v : Value} (h : SvB w base zb so n sc st) (hz : Blk w z #[x] 27) (hne : zb ≠ z) : SvB (w.setCell ⟨z, 0, none⟩ v) base zb so n sc st :=
  ⟨h.box.set_other hne _, h.own.chg (S := fun k => k = z) ((Chg.refl _ _).setCell _ _ (fun _ => rfl)) (fun k e => by subst e; exact ⟨_, hz⟩)⟩
theorem OwnR.setS {w : World} {base z : Nat} {v : Value} {l : PRS} {x u : Value} (h : OwnR w base v l) (hz : Blk w z #[x] 27) : OwnR (w.setCell ⟨z, 0, none⟩ u) base v l :=
  OwnR.chgS h (S := fun k => k = z) ((Chg.refl _ _).setCell _ _ (fun _ => rfl)) (fun k e => by subst e; exact ⟨_, hz⟩)
theorem SvB.made {w : World} {base z n sc : Nat} {so : Option Addr} {st : ST} {x : Value} (hz : Blk w z #[x] 27) (h : StO w base (.slice so n sc) st) : SvB (w.setCell ⟨z, 0, none⟩ (.slice so n sc)) base z so n sc st :=
  ⟨hz.set 0 _, h.chg (S := fun k => k = z) ((Chg.refl _ _).setCell _ _ (fun _ => rfl)) (fun k e => by subst e; exact ⟨_, hz⟩)⟩
/-- What a walk of the sums' graph holds. -/
structure EpB (w wr : World) (xb ob i1 i2 : Nat) (arg : Int) : Prop where
  bel : Below w.heap.size w wr
  box : Blk wr xb #[.slice (some ⟨ob, 0, none⟩) 3 3] 24
  sums : SumsAt wr w.heap.size ob i1 i2 arg
theorem EpB.below {w wr w' : World} {xb ob i1 i2 : Nat} {arg : Int} (h : EpB w wr xb ob i1 i2 arg) (hb : Below wr.heap.size wr w') : EpB w w' xb ob i1 i2 arg := ⟨h.bel.trans (hb.mono h.bel.size), h.box.below hb h.box.lt, h.sums.below hb⟩
theorem EpB.cell {w wr : World} {xb ob i1 i2 : Nat} {arg : Int} (h : EpB w wr xb ob i1 i2 arg) : wr.cell? ⟨xb, 0, none⟩ = some (.slice (some ⟨ob, 0, none⟩) 3 3) := h.box.cellAt rfl
theorem EpB.set {w wr : World} {xb ob i1 i2 z : Nat} {arg : Int} {x v : Value} (h : EpB w wr xb ob i1 i2 arg) (hz : Blk wr z #[x] 27) (hzb : w.heap.size ≤ z) : EpB w (wr.setCell ⟨z, 0, none⟩ v) xb ob i1 i2 arg :=
  ⟨h.bel.setCell hzb _, h.box.set_other (blk_ne h.box hz (by decide)) _, ⟨h.sums.ops.set_other (blk_ne h.sums.ops hz (by decide)) _, h.sums.in1.set_other (blk_ne h.sums.in1 hz (by decide)) _, h.sums.in2.set_other (blk_ne h.sums.in2 hz (by decide)) _, h.sums.b0, h.sums.b1, h.sums.b2⟩⟩
/-- Run over the sums' graph. -/
theorem EpB.run {w wr : World} {xb ob i1 i2 : Nat} {arg : Int} (h : EpB w wr xb ob i1 i2 arg) (ha : (Lit.int .i64 arg).wf = true) {s : ST} {recs : List TRecord} {so ra : Option Addr} {sc rc sl rl : Nat} (hs : StA wr wr.heap.size so sc s) (hr : SlA wr.heap.size 5 (RRecord wr.heap.size) wr ra rc recs) (hsl : sl = s.length) (hrl : rl = recs.length)
    (hsok : okS s) (hsz : ∀ l ∈ s, l.length ≤ 5864062014805) :
    Calls Try.prog 10 #[.agg #[.slice (some ⟨ob, 0, none⟩) 3 3], .agg #[.slice so sl sc], .slice ra rl rc] wr (RunPost wr (runM (sumsOps arg) s recs)) := by
  subst hsl hrl
  exact run_any (sumsOps arg) s recs (some ⟨ob, 0, none⟩) so ra 3 sc rc _ wr (Nat.le_refl _) (h.sums.sla ha) hs hr hsok hsz

/-- What Run answers over the sums' graph. -/
def SumPost (w wr : World) (M K : PRS) (nM : Nat) (e : Ending) (w' : World) : Prop :=
  ∃ qa qac qb qbc, e = .returned (.tuple #[.slice qa nM qac, .agg #[.slice qb 3 qbc], .int .i64 0]) ∧ OwnR w' w.heap.size (.slice qa nM qac) M ∧ StO w' w.heap.size (.slice qb 3 qbc) [[], K, []] ∧ Below wr.heap.size wr w'
theorem EpB.runK {w wr : World} {xb ob i1 i2 : Nat} {arg : Int} (h : EpB w wr xb ob i1 i2 arg) (h0 : 0 ≤ arg) (h6 : arg ≤ 6) (ha : (Lit.int .i64 arg).wf = true) {s : ST} {recs : List TRecord} {so ra : Option Addr} {sc rc sl rl : Nat} (hs : StA wr wr.heap.size so sc s) (hr : SlA wr.heap.size 5 (RRecord wr.heap.size) wr ra rc recs) (hsl : sl = s.length) (hrl : rl = recs.length)
    (hsok : okS s) (hsz : ∀ l ∈ s, l.length ≤ 5864062014805) (hg : goodS (sumsOps arg) s = true) (h512 : recs.length ≤ 512) {M K : PRS} {nM : Nat} (hM : M = sortP (foldOut arg (recs.map recP) (keptAt s 1))) (hK : K = foldKeep arg (recs.map recP) (keptAt s 1)) (hnM : nM = M.length) :
    Calls Try.prog 10 #[.agg #[.slice (some ⟨ob, 0, none⟩) 3 3], .agg #[.slice so sl sc], .slice ra rl rc] wr (SumPost w wr M K nM) := by
  refine (h.run ha hs hr hsl hrl hsok hsz).mono fun e w' hp => ?_
  rw [runM_sums h0 h6 s recs hg h512, ← hM, ← hK] at hp
  obtain ⟨ao, ac, so', sc', rfl, h1, h2, h3⟩ := hp.own
  rw [hnM]
  exact ⟨ao, ac, so', sc', rfl, OwnL.base_le h1 h.bel.size, StO.base_le h2 h.bel.size, h3⟩
theorem EpB.runG {w wr : World} {xb ob i1 i2 : Nat} {arg : Int} (h : EpB w wr xb ob i1 i2 arg) (ha : (Lit.int .i64 arg).wf = true) {s : ST} {recs : List TRecord} {so ra : Option Addr} {sc rc sl rl : Nat} (hs : StA wr wr.heap.size so sc s) (hr : SlA wr.heap.size 5 (RRecord wr.heap.size) wr ra rc recs) (hsl : sl = s.length) (hrl : rl = recs.length)
    (hsok : okS s) (hsz : ∀ l ∈ s, l.length ≤ 5864062014805) {R : PRS × ST × Nat} {nm nb he : Nat} (hR : R = runM (sumsOps arg) s recs) (hnm : nm = R.1.length) (hnb : nb = R.2.1.length) (hhe : he = R.2.2) :
    Calls Try.prog 10 #[.agg #[.slice (some ⟨ob, 0, none⟩) 3 3], .agg #[.slice so sl sc], .slice ra rl rc] wr fun e w' => ∃ qa qac qb qbc, e = .returned (.tuple #[.slice qa nm qac, .agg #[.slice qb nb qbc], .int .i64 (he : Nat)]) ∧ OwnR w' w.heap.size (.slice qa nm qac) R.1 ∧ StO w' w.heap.size (.slice qb nb qbc) R.2.1 ∧ Below wr.heap.size wr w' := by
  refine (h.run ha hs hr hsl hrl hsok hsz).mono fun e w' hp => ?_
  rw [← hR] at hp
  obtain ⟨ao, ac, so', sc', rfl, h1, h2, h3⟩ := hp.own
  rw [hnm, hnb, hhe]
  exact ⟨ao, ac, so', sc', rfl, OwnL.base_le h1 h.bel.size, StO.base_le h2 h.bel.size, h3⟩
theorem goodS_K {arg : Int} (l : PRS) (hk : ∀ p ∈ l, p.1.size ≤ 32) : goodS (sumsOps arg) [[], foldKeep arg l [], []] = true :=
  goodS_sums (foldKeep_srt List.Pairwise.nil) (fun p hp => by
    rcases foldKeep_keys List.Pairwise.nil hp with h | h
    · obtain ⟨q, hq, e⟩ := mem_keysK.1 h
      rw [← e]
      exact hk q hq
    · cases h)
/-- Two epochs, one behind the other. -/
theorem epochs_law {arg : Int} (h0 : 0 ≤ arg) (h6 : arg ≤ 6) (recs : List TRecord) (c : Nat) (h512 : recs.length ≤ 512) (hk : ∀ r ∈ recs, r.fKey.size ≤ 32) {K0 K1 : PRS} (hK0 : K0 = foldKeep arg (recs.map recP) []) (hK1 : K1 = foldKeep arg ((recs.take c).map recP) []) {R : PRS × ST × Nat} (hR : R = runM (sumsOps arg) [[], K1, []] (recs.drop c)) :
    R.2.1 = [[], K0, []] ∧ R.2.2 = 0 ∧ ∀ p ∈ R.1, p ∈ K0 := by
  have hg : goodS (sumsOps arg) [[], K1, []] = true := by
    rw [hK1]
    refine goodS_K _ (fun p hp => ?_)
    obtain ⟨r, hr, rfl⟩ := List.mem_map.1 hp
    exact hk r (List.mem_of_mem_take hr)
  have hKK : foldKeep arg ((recs.drop c).map recP) K1 = K0 := by
    rw [hK0, hK1, ← foldKeep_append _ List.Pairwise.nil, ← List.map_append, List.take_append_drop]
  rw [runM_sums h0 h6 _ _ hg (by rw [List.length_drop]; omega), show keptAt [[], K1, []] 1 = K1 from rfl, hKK] at hR
  subst hR
  refine ⟨rfl, rfl, fun p hp => ?_⟩
  have h1 := foldOut_sub p ((sortP_perm _).mem_iff.1 hp)
  rw [hKK] at h1
  exact getL_mem h1

set_option maxRecDepth 100000 in
set_option maxHeartbeats 1600000 in
theorem mepochs_walk (wh cut : Int) (recs : List TRecord) (ra : Option Addr) (rcap : Nat) (w : World) (hr : SlA w.heap.size 5 (RRecord w.heap.size) w ra rcap recs) :
    Calls Try.prog 6 #[.int .i64 wh, .slice ra recs.length rcap, .int .i64 cut] w fun e w' => e = .returned (.bool true) ∧ Below w.heap.size w w' := by
  obtain ⟨n, hn⟩ : ∃ n, n = recs.length := ⟨_, rfl⟩
  have hrl := hr.len
  rw [← hn] at hrl ⊢
  obtain ⟨arg, harg7, harg⟩ := tmod_u64 wh 7 (by omega)
  have hawf : (Lit.int .i64 (arg : Int)).wf = true := by
    have : arg = 0 ∨ arg = 1 ∨ arg = 2 ∨ arg = 3 ∨ arg = 4 ∨ arg = 5 ∨ arg = 6 := by omega
    rcases this with rfl | rfl | rfl | rfl | rfl | rfl | rfl <;> rfl
  rw [show ((7 : Nat) : Int) = 7 from rfl] at harg
  replace hn := Lib.hid hn
  replace hawf := Lib.hid hawf
  have hkn := mknown_any w
  replace hkn := Lib.hid hkn
  go_enter Try.func6, Try.ntmps6
  go_wp2_with fail
  refine hkn.out.mono ?_
  rintro e w1 ⟨rfl, hb1⟩
  have hsu := sums_any w1
  replace hsu := Lib.hid hsu
  clear hkn
  dsimp only
  go_wp2_with (go_at_call 20; refine Shut.out ?ks)
  unfold Shut
  refine hsu.out.mono ?_
  rintro e w2 ⟨ob, i1, i2, rfl, hS2, hb2⟩
  have hbw2 := hb1.trans (hb2.mono hb1.size)
  replace hS2 : SumsAt w2 w.heap.size ob i1 i2 0 := ⟨hS2.ops, hS2.in1, hS2.in2, Nat.le_trans hb1.size hS2.b0, Nat.le_trans hb1.size hS2.b1, Nat.le_trans hb1.size hS2.b2⟩
  clear hsu hb1 hb2
  dsimp only
  go_upto_region 4 with fail
  refine Code.wp_world ?_
  intro w3 hw3
  have hE3 : EpB w w3 w2.heap.size ob i1 i2 0 := by
    rw [hw3]
    exact ⟨hbw2.alloc hbw2.size _, Blk.new _ _ _, hS2.below (belowAlloc _ _)⟩
  obtain ⟨xb, hxb⟩ : ∃ xb, xb = w2.heap.size := ⟨_, rfl⟩
  rw [← hxb] at hE3 ⊢
  replace hxb := Lib.hid hxb
  clear hw3 hS2 hbw2
  have x3 := hE3.cell
  have o3 := hE3.sums.ops.cellAt (i := 9) (v := .int .i64 0) rfl
  have of3 := hE3.sums.ops.frozen 9
  go_upto_region 5 with fail
  refine Code.wp_world ?_
  intro w4 hw4
  have hE4 : EpB w w4 xb ob i1 i2 (arg : Int) := by
    rw [hw4]
    have h1 := hE3.sums.setArg (arg : Int)
    refine ⟨hE3.bel.setCell (by exact hE3.sums.b0) _, hE3.box.set_other (blk_ne hE3.box hE3.sums.ops (by decide)) _, h1⟩
  clear hw4 hE3 x3 o3 of3
  by_cases hbig : 512 < n
  · have d1 : decide ((512 : Int) < (n : Int)) = true := by simp; omega
    have hbf := hE4.bel
    clear hE4
    go_wp2_with fail
    go_ret
    exact ⟨rfl, hbf⟩
  have d1 : decide ((512 : Int) < (n : Int)) = false := by simp; omega
  obtain ⟨c, hc1, hcc⟩ := tmod_u64 cut (n + 1) (Nat.succ_pos n)
  rw [Int.natCast_add, Int.natCast_one] at hcc
  have hun : IntKind.u64.wrap ((n : Int) + 1) = (n : Int) + 1 := u64_in (by omega) (by omega)
  have hup : wrap64 ((n : Int) + 1) = (n : Int) + 1 := IntWalk.wrap64_in _ ⟨by omega, by omega⟩
  have x4 := hE4.cell
  have hr4 : SlA w4.heap.size 5 (RRecord w4.heap.size) w4 ra rcap recs := hr.imp hE4.bel hE4.bel.size (fun _ _ _ h => h.imp hE4.bel hE4.bel.size)
  obtain ⟨K0, hK0⟩ : ∃ K0, K0 = foldKeep arg (recs.map recP) [] := ⟨_, rfl⟩
  obtain ⟨nk, hnk⟩ : ∃ nk, nk = K0.length := ⟨_, rfl⟩
  have hrun4 := hE4.runK (by omega) (by omega) hawf.out (SlA.nil _ _ _ _) hr4 (so := none) (sc := 0) (sl := 0) rfl hn.out (fun l hl => by cases hl) (fun l hl => by cases hl) (goodS_nil _) (by have := hn.out; omega) (M := K0) (K := K0) (by rw [show keptAt ([] : ST) 1 = [] from rfl, sort_foldOut]; exact hK0) hK0 hnk
  replace hK0 := Lib.hid hK0
  replace hnk := Lib.hid hnk
  replace hrun4 := Lib.hid hrun4
  go_wp2_with (go_at_call 10; refine Shut.out ?kr)
  unfold Shut
  refine hrun4.out.mono ?_
  rintro e w5 ⟨la, lac, sa, sac, rfl, hL5, hS5, hb5⟩
  have hE5 := hE4.below hb5
  clear hrun4 hb5 hE4 x4 hr4
  dsimp only
  go_upto_region 9 with fail
  refine Code.wp_world ?_
  intro w6 hw6
  have hb6 : Below w5.heap.size w5 w6 := by rw [hw6]; exact belowAlloc _ _
  have hV6 : SvB w6 w.heap.size w5.heap.size sa 3 sac [[], K0, []] := ⟨by rw [hw6]; exact Blk.new _ _ _, hS5.below hb6⟩
  have hL6 := hL5.below hb6 (Nat.le_refl _)
  have hE6 := hE5.below hb6
  obtain ⟨zb, hzb⟩ : ∃ zb, zb = w5.heap.size := ⟨_, rfl⟩
  rw [← hzb] at hV6 ⊢
  replace hzb := Lib.hid hzb
  clear hw6 hb6 hL5 hS5 hE5
  have hn512 : n ≤ 512 := by omega
  have hcn : c ≤ n := by omega
  obtain ⟨K1, hK1⟩ : ∃ K1, K1 = foldKeep arg ((recs.take c).map recP) [] := ⟨_, rfl⟩
  obtain ⟨n1, hn1⟩ : ∃ n1, n1 = K1.length := ⟨_, rfl⟩
  replace hK1 := Lib.hid hK1
  replace hn1 := Lib.hid hn1
  go_cut [11, 12, 13] from 51 to 60 (fun s11 s12 s13 wx => ∃ qa qac qb qbc z2, s11 = .slice qa n1 qac ∧ s12 = .pointer (some ⟨z2, 0, none⟩) ∧ s13 = .int .i64 0 ∧ SvB wx w.heap.size z2 qb 3 qbc [[], K1, []] ∧ EpB w wx xb ob i1 i2 (arg : Int) ∧ SvB wx w.heap.size zb sa 3 sac [[], K0, []] ∧ OwnR wx w.heap.size (.slice la nk lac) K0)
  case first =>
    have hd6 : Below w6.heap.size w6 w6.drew := (Below.refl _ _).drew
    have hrunT : ∀ W, Below w6.heap.size w6 W → Calls Try.prog 10 #[.agg #[.slice (some ⟨ob, 0, none⟩) 3 3], .agg #[.slice none 0 0], .slice ra c rcap] W (SumPost w W K1 K1 n1) := fun W hW => by
      have hEW := hE6.below hW
      have hrW : SlA W.heap.size 5 (RRecord W.heap.size) W ra rcap recs := hr.imp hEW.bel hEW.bel.size (fun _ _ _ h => h.imp hEW.bel hEW.bel.size)
      have hcl : c = (recs.take c).length := by rw [List.length_take]; have := hn.out; omega
      exact hEW.runK (by omega) (by omega) hawf.out (SlA.nil _ _ _ _) (slaTake hrW c) (so := none) (sc := 0) (sl := 0) rfl hcl (fun l hl => by cases hl) (fun l hl => by cases hl) (goodS_nil _) (by omega) (by rw [show keptAt ([] : ST) 1 = [] from rfl, sort_foldOut]; exact hK1.out) hK1.out hn1.out
    have x6 := hE6.cell
    have hzbl := hV6.box.lt
    have hrnil := hr.2.2.1
    have hrcap := hr.1
    rw [← hn.out] at hrcap
    have hrcm := hr.2.1
    unfold maxLen at hrcm
    replace hrunT := Lib.hid hrunT
    cases ra with
    | none =>
      have hrc0 : rcap = 0 := hrnil rfl
      subst hrc0
      obtain rfl : n = 0 := by omega
      obtain rfl : c = 0 := by omega
      clear hrnil
      refine wp_region_tree (fun wx => wx.cell? ⟨xb, 0, none⟩ = some (.slice (some ⟨ob, 0, none⟩) 3 3)) 13 14 (by kernel_rfl) rfl (by kernel_rfl) (fun d _ _ _ _ h => by cases d <;> exact h) (x6) (fun opz T hOps hT hTok hHeld => ?_)
      (refine wpTree_q 0 hTok hOps (by kernel_rfl) rfl rfl ⟨?_, ?_, ?_⟩; rotate_left; (focus (intro wx hSx; (try dsimp only at hSx); go_simp; (try with_reducible rfl))); (simp only [Act.put, List.setIfInBounds_toArray, List.set_cons_zero, List.set_cons_succ]))
      (refine wpTree_q 1 hTok hOps (by kernel_rfl) rfl rfl ⟨?_, ?_, ?_⟩; rotate_left; (focus (intro wx hSx; (try dsimp only at hSx); go_simp; (try with_reducible rfl))); (simp only [Act.put, List.setIfInBounds_toArray, List.set_cons_zero, List.set_cons_succ]))
      (refine wpTree_q 2 hTok hOps (by kernel_rfl) rfl rfl ⟨?_, ?_, ?_⟩; rotate_left; (focus (intro wx hSx; (try dsimp only at hSx); go_simp; (try with_reducible rfl))); (simp only [Act.put, List.setIfInBounds_toArray, List.set_cons_zero, List.set_cons_succ]))
      (refine wpTree_q 3 hTok hOps (by kernel_rfl) rfl rfl ⟨?_, ?_, ?_⟩; rotate_left; (focus (intro wx hSx; (try dsimp only at hSx); go_simp; (try with_reducible rfl))); (simp only [Act.put, List.setIfInBounds_toArray, List.set_cons_zero, List.set_cons_succ]))
      (refine wpTree_q 4 hTok hOps (by kernel_rfl) rfl rfl ⟨?_, ?_, ?_⟩; rotate_left; (focus (intro wx hSx; (try dsimp only at hSx); go_simp; (try with_reducible rfl))); (simp only [Act.put, List.setIfInBounds_toArray, List.set_cons_zero, List.set_cons_succ]))
      rw [show ((0 : Nat) : Int) = 0 from rfl]
      refine wpTree_2 5 10 hOps (by kernel_rfl) (by decide) (by decide) rfl rfl (fun K' hK => ?_) (fun K' hK => ?_)
      · go_simp
        refine (hrunT.out _ hd6).mono ?_
        rintro e w7 ⟨qa, qac, qb, qbc, rfl, hq7, hs7, hb7⟩
        have hb67 : Below w6.heap.size w6 w7 := hd6.trans (hb7.mono hd6.size)
        dsimp only
        refine hK.out _ _ ((hE6.below hb67).cell) ?_
        clear hK K' hb7 hrunT hd6
        try simp only [Act.put, List.setIfInBounds_toArray, List.set_cons_zero, List.set_cons_succ]
        (refine wpTree_q 6 hTok hOps (by kernel_rfl) rfl rfl ⟨?_, ?_, ?_⟩; rotate_left; (focus (intro wx hSx; (try dsimp only at hSx); go_simp; (try with_reducible rfl))); (simp only [Act.put, List.setIfInBounds_toArray, List.set_cons_zero, List.set_cons_succ]))
        (refine wpTree_q 7 hTok hOps (by kernel_rfl) rfl rfl ⟨?_, ?_, ?_⟩; rotate_left; (focus (intro wx hSx; (try dsimp only at hSx); go_simp; (try with_reducible rfl))); (simp only [Act.put, List.setIfInBounds_toArray, List.set_cons_zero, List.set_cons_succ]))
        (refine wpTree_q 8 hTok hOps (by kernel_rfl) rfl rfl ⟨?_, ?_, ?_⟩; rotate_left; (focus (intro wx hSx; (try dsimp only at hSx); go_simp; (try with_reducible rfl))); (simp only [Act.put, List.setIfInBounds_toArray, List.set_cons_zero, List.set_cons_succ]))
        (refine wpTree_q 9 hTok hOps (by kernel_rfl) rfl rfl ⟨?_, ?_, ?_⟩; rotate_left; (focus (intro wx hSx; (try dsimp only at hSx); go_simp; (try with_reducible rfl))); (simp only [Act.put, List.setIfInBounds_toArray, List.set_cons_zero, List.set_cons_succ]))
        refine wpTree_1 10 hOps (by kernel_rfl) (by decide) rfl (fun K' hK => ?_)
        go_simp
        have hb8 : Below w7.heap.size w7 (w7.alloc (.cells #[.slice none 0 0] 27)) := belowAlloc _ _
        have hb68 := hb67.trans (hb8.mono hb67.size)
        have hE8 := hE6.below hb68
        refine hK.out _ _ (hE8.cell) ?_
        have hV8 := hV6.below hb68
        have hL8 := hL6.below hb68 (Nat.le_refl _)
        have hs8 := hs7.below hb8
        have hq8 := hq7.below hb8 (Nat.le_refl _)
        have hz8 : Blk (w7.alloc (.cells #[.slice none 0 0] 27)) w7.heap.size #[.slice none 0 0] 27 := Blk.new _ _ _
        obtain ⟨zz, hzz⟩ : ∃ zz, zz = w7.heap.size := ⟨_, rfl⟩
        have hzw : w.heap.size ≤ zz := by rw [hzz]; exact Nat.le_trans hE6.bel.size hb67.size
        have hzn : zb ≠ zz := by rw [hzz]; exact Nat.ne_of_lt (Nat.lt_of_lt_of_le hV6.box.lt hb67.size)
        rw [← hzz] at hz8 ⊢
        obtain ⟨w8, hw8⟩ : ∃ w8, w8 = w7.alloc (.cells #[.slice none 0 0] 27) := ⟨_, rfl⟩
        rw [← hw8] at hE8 hV8 hL8 hs8 hq8 hz8 ⊢
        replace hzz := Lib.hid hzz
        replace hw8 := Lib.hid hw8
        clear hK K' hb8 hb68 hb67 hs7 hq7
        try simp only [Act.put, List.setIfInBounds_toArray, List.set_cons_zero, List.set_cons_succ]
        (refine wpTree_q 11 hTok hOps (by kernel_rfl) rfl rfl ⟨?_, ?_, ?_⟩; rotate_left; (focus (intro wx hSx; (try dsimp only at hSx); go_simp; (try with_reducible rfl))); (simp only [Act.put, List.setIfInBounds_toArray, List.set_cons_zero, List.set_cons_succ]))
        have c8 := hz8.cellAt (i := 0) (v := .slice none 0 0) rfl
        have f8 := hz8.frozen 0
        refine wpTree_1 12 hOps (by kernel_rfl) (by decide) rfl (fun K' hK => ?_)
        go_simp
        have hE9 := hE8.set hz8 (v := .slice qb 3 qbc) hzw
        have hV9 := hV8.set hz8 hzn (v := .slice qb 3 qbc)
        have hL9 := OwnR.setS hL8 hz8 (u := .slice qb 3 qbc)
        have hq9 := OwnR.setS hq8 hz8 (u := .slice qb 3 qbc)
        have hZ9 := SvB.made hz8 hs8
        refine hK.out _ _ (hE9.cell) ?_
        clear hK K' hE8 hV8 hL8 hq8 hs8 c8 f8
        try simp only [Act.put, List.setIfInBounds_toArray, List.set_cons_zero, List.set_cons_succ]
        refine wpTree_nil hOps (by kernel_rfl) ?_
        refine hT.out _ _ ?_
        simp only [List.drop_succ_cons, List.drop_zero]
        clear hHeld hTok hOps hT
        go_wp2_with fail
        go_meet
        case rel => exact ⟨qa, qac, qb, qbc, zz, rfl, rfl, rfl, hZ9, hE9, hV9, hL9⟩
      · go_simp
        have hb8 : Below w6.heap.size w6 (w6.alloc (.cells #[.slice none 0 0] 27)).drew := (belowAlloc _ _).drew
        have hz7 : Blk (w6.alloc (.cells #[.slice none 0 0] 27)).drew w6.heap.size #[.slice none 0 0] 27 := (Blk.new w6 _ _).drew
        have hE7 := hE6.below hb8
        refine hK.out _ _ (hE7.cell) ?_
        have hV7 := hV6.below hb8
        have hL7 := hL6.below hb8 (Nat.le_refl _)
        obtain ⟨zz, hzz⟩ : ∃ zz, zz = w6.heap.size := ⟨_, rfl⟩
        have hzw : w.heap.size ≤ zz := by rw [hzz]; exact hE6.bel.size
        have hzn : zb ≠ zz := by rw [hzz]; exact Nat.ne_of_lt hV6.box.lt
        rw [← hzz] at hz7 ⊢
        obtain ⟨w7, hw7⟩ : ∃ w7, w7 = (w6.alloc (.cells #[.slice none 0 0] 27)).drew := ⟨_, rfl⟩
        rw [← hw7] at hE7 hV7 hL7 hz7 hb8 ⊢
        replace hzz := Lib.hid hzz
        replace hw7 := Lib.hid hw7
        have hrun7 := hrunT.out _ hb8
        replace hrun7 := Lib.hid hrun7
        clear hK K' hb8 hrunT
        try simp only [Act.put, List.setIfInBounds_toArray, List.set_cons_zero, List.set_cons_succ]
        refine wpTree_1 5 hOps (by kernel_rfl) (by decide) rfl (fun K' hK => ?_)
        go_simp
        refine hrun7.out.mono ?_
        rintro e w8 ⟨qa, qac, qb, qbc, rfl, hq8, hs8, hb8⟩
        dsimp only
        have hE8 := hE7.below hb8
        refine hK.out _ _ (hE8.cell) ?_
        have hV8 := hV7.below hb8
        have hL8 := hL7.below hb8 (Nat.le_refl _)
        have hz8 := hz7.below hb8 hz7.lt
        clear hK K' hb8 hrun7 hz7 hE7 hV7 hL7
        try simp only [Act.put, List.setIfInBounds_toArray, List.set_cons_zero, List.set_cons_succ]
        (refine wpTree_q 6 hTok hOps (by kernel_rfl) rfl rfl ⟨?_, ?_, ?_⟩; rotate_left; (focus (intro wx hSx; (try dsimp only at hSx); go_simp; (try with_reducible rfl))); (simp only [Act.put, List.setIfInBounds_toArray, List.set_cons_zero, List.set_cons_succ]))
        (refine wpTree_q 7 hTok hOps (by kernel_rfl) rfl rfl ⟨?_, ?_, ?_⟩; rotate_left; (focus (intro wx hSx; (try dsimp only at hSx); go_simp; (try with_reducible rfl))); (simp only [Act.put, List.setIfInBounds_toArray, List.set_cons_zero, List.set_cons_succ]))
        (refine wpTree_q 8 hTok hOps (by kernel_rfl) rfl rfl ⟨?_, ?_, ?_⟩; rotate_left; (focus (intro wx hSx; (try dsimp only at hSx); go_simp; (try with_reducible rfl))); (simp only [Act.put, List.setIfInBounds_toArray, List.set_cons_zero, List.set_cons_succ]))
        (refine wpTree_q 9 hTok hOps (by kernel_rfl) rfl rfl ⟨?_, ?_, ?_⟩; rotate_left; (focus (intro wx hSx; (try dsimp only at hSx); go_simp; (try with_reducible rfl))); (simp only [Act.put, List.setIfInBounds_toArray, List.set_cons_zero, List.set_cons_succ]))
        (refine wpTree_q 11 hTok hOps (by kernel_rfl) rfl rfl ⟨?_, ?_, ?_⟩; rotate_left; (focus (intro wx hSx; (try dsimp only at hSx); go_simp; (try with_reducible rfl))); (simp only [Act.put, List.setIfInBounds_toArray, List.set_cons_zero, List.set_cons_succ]))
        have c8 := hz8.cellAt (i := 0) (v := .slice none 0 0) rfl
        have f8 := hz8.frozen 0
        refine wpTree_1 12 hOps (by kernel_rfl) (by decide) rfl (fun K' hK => ?_)
        go_simp
        have hE9 := hE8.set hz8 (v := .slice qb 3 qbc) hzw
        have hV9 := hV8.set hz8 hzn (v := .slice qb 3 qbc)
        have hL9 := OwnR.setS hL8 hz8 (u := .slice qb 3 qbc)
        have hq9 := OwnR.setS hq8 hz8 (u := .slice qb 3 qbc)
        have hZ9 := SvB.made hz8 hs8
        refine hK.out _ _ (hE9.cell) ?_
        clear hK K' hE8 hV8 hL8 hq8 hs8 c8 f8
        try simp only [Act.put, List.setIfInBounds_toArray, List.set_cons_zero, List.set_cons_succ]
        refine wpTree_nil hOps (by kernel_rfl) ?_
        refine hT.out _ _ ?_
        simp only [List.drop_succ_cons, List.drop_zero]
        clear hHeld hTok hOps hT
        go_wp2_with fail
        go_meet
        case rel => exact ⟨qa, qac, qb, qbc, zz, rfl, rfl, rfl, hZ9, hE9, hV9, hL9⟩
    | some a =>
      clear hrnil
      refine wp_region_tree (fun wx => wx.cell? ⟨xb, 0, none⟩ = some (.slice (some ⟨ob, 0, none⟩) 3 3)) 13 14 (by kernel_rfl) rfl (by kernel_rfl) (fun d _ _ _ _ h => by cases d <;> exact h) (x6) (fun opz T hOps hT hTok hHeld => ?_)
      (refine wpTree_q 0 hTok hOps (by kernel_rfl) rfl rfl ⟨?_, ?_, ?_⟩; rotate_left; (focus (intro wx hSx; (try dsimp only at hSx); go_simp; (try with_reducible rfl))); (simp only [Act.put, List.setIfInBounds_toArray, List.set_cons_zero, List.set_cons_succ]))
      (refine wpTree_q 1 hTok hOps (by kernel_rfl) rfl rfl ⟨?_, ?_, ?_⟩; rotate_left; (focus (intro wx hSx; (try dsimp only at hSx); go_simp; (try with_reducible rfl))); (simp only [Act.put, List.setIfInBounds_toArray, List.set_cons_zero, List.set_cons_succ]))
      (refine wpTree_q 2 hTok hOps (by kernel_rfl) rfl rfl ⟨?_, ?_, ?_⟩; rotate_left; (focus (intro wx hSx; (try dsimp only at hSx); go_simp; (try with_reducible rfl))); (simp only [Act.put, List.setIfInBounds_toArray, List.set_cons_zero, List.set_cons_succ]))
      (refine wpTree_q 3 hTok hOps (by kernel_rfl) rfl rfl ⟨?_, ?_, ?_⟩; rotate_left; (focus (intro wx hSx; (try dsimp only at hSx); go_simp; (try with_reducible rfl))); (simp only [Act.put, List.setIfInBounds_toArray, List.set_cons_zero, List.set_cons_succ]))
      (refine wpTree_qg 4 hTok hOps (by kernel_rfl) rfl rfl ⟨?_, ?_, ?_⟩; rotate_left; (focus (intro wx hSx; (try dsimp only at hSx); go_simp; rw [if_pos (by omega)])); (simp only [Act.put, List.setIfInBounds_toArray, List.set_cons_zero, List.set_cons_succ]))
      refine wpTree_2 5 10 hOps (by kernel_rfl) (by decide) (by decide) rfl rfl (fun K' hK => ?_) (fun K' hK => ?_)
      · go_simp
        refine (hrunT.out _ hd6).mono ?_
        rintro e w7 ⟨qa, qac, qb, qbc, rfl, hq7, hs7, hb7⟩
        have hb67 : Below w6.heap.size w6 w7 := hd6.trans (hb7.mono hd6.size)
        dsimp only
        refine hK.out _ _ ((hE6.below hb67).cell) ?_
        clear hK K' hb7 hrunT hd6
        try simp only [Act.put, List.setIfInBounds_toArray, List.set_cons_zero, List.set_cons_succ]
        (refine wpTree_q 6 hTok hOps (by kernel_rfl) rfl rfl ⟨?_, ?_, ?_⟩; rotate_left; (focus (intro wx hSx; (try dsimp only at hSx); go_simp; (try with_reducible rfl))); (simp only [Act.put, List.setIfInBounds_toArray, List.set_cons_zero, List.set_cons_succ]))
        (refine wpTree_q 7 hTok hOps (by kernel_rfl) rfl rfl ⟨?_, ?_, ?_⟩; rotate_left; (focus (intro wx hSx; (try dsimp only at hSx); go_simp; (try with_reducible rfl))); (simp only [Act.put, List.setIfInBounds_toArray, List.set_cons_zero, List.set_cons_succ]))
        (refine wpTree_q 8 hTok hOps (by kernel_rfl) rfl rfl ⟨?_, ?_, ?_⟩; rotate_left; (focus (intro wx hSx; (try dsimp only at hSx); go_simp; (try with_reducible rfl))); (simp only [Act.put, List.setIfInBounds_toArray, List.set_cons_zero, List.set_cons_succ]))
        (refine wpTree_q 9 hTok hOps (by kernel_rfl) rfl rfl ⟨?_, ?_, ?_⟩; rotate_left; (focus (intro wx hSx; (try dsimp only at hSx); go_simp; (try with_reducible rfl))); (simp only [Act.put, List.setIfInBounds_toArray, List.set_cons_zero, List.set_cons_succ]))
        refine wpTree_1 10 hOps (by kernel_rfl) (by decide) rfl (fun K' hK => ?_)
        go_simp
        have hb8 : Below w7.heap.size w7 (w7.alloc (.cells #[.slice none 0 0] 27)) := belowAlloc _ _
        have hb68 := hb67.trans (hb8.mono hb67.size)
        have hE8 := hE6.below hb68
        refine hK.out _ _ (hE8.cell) ?_
        have hV8 := hV6.below hb68
        have hL8 := hL6.below hb68 (Nat.le_refl _)
        have hs8 := hs7.below hb8
        have hq8 := hq7.below hb8 (Nat.le_refl _)
        have hz8 : Blk (w7.alloc (.cells #[.slice none 0 0] 27)) w7.heap.size #[.slice none 0 0] 27 := Blk.new _ _ _
        obtain ⟨zz, hzz⟩ : ∃ zz, zz = w7.heap.size := ⟨_, rfl⟩
        have hzw : w.heap.size ≤ zz := by rw [hzz]; exact Nat.le_trans hE6.bel.size hb67.size
        have hzn : zb ≠ zz := by rw [hzz]; exact Nat.ne_of_lt (Nat.lt_of_lt_of_le hV6.box.lt hb67.size)
        rw [← hzz] at hz8 ⊢
        obtain ⟨w8, hw8⟩ : ∃ w8, w8 = w7.alloc (.cells #[.slice none 0 0] 27) := ⟨_, rfl⟩
        rw [← hw8] at hE8 hV8 hL8 hs8 hq8 hz8 ⊢
        replace hzz := Lib.hid hzz
        replace hw8 := Lib.hid hw8
        clear hK K' hb8 hb68 hb67 hs7 hq7
        try simp only [Act.put, List.setIfInBounds_toArray, List.set_cons_zero, List.set_cons_succ]
        (refine wpTree_q 11 hTok hOps (by kernel_rfl) rfl rfl ⟨?_, ?_, ?_⟩; rotate_left; (focus (intro wx hSx; (try dsimp only at hSx); go_simp; (try with_reducible rfl))); (simp only [Act.put, List.setIfInBounds_toArray, List.set_cons_zero, List.set_cons_succ]))
        have c8 := hz8.cellAt (i := 0) (v := .slice none 0 0) rfl
        have f8 := hz8.frozen 0
        refine wpTree_1 12 hOps (by kernel_rfl) (by decide) rfl (fun K' hK => ?_)
        go_simp
        have hE9 := hE8.set hz8 (v := .slice qb 3 qbc) hzw
        have hV9 := hV8.set hz8 hzn (v := .slice qb 3 qbc)
        have hL9 := OwnR.setS hL8 hz8 (u := .slice qb 3 qbc)
        have hq9 := OwnR.setS hq8 hz8 (u := .slice qb 3 qbc)
        have hZ9 := SvB.made hz8 hs8
        refine hK.out _ _ (hE9.cell) ?_
        clear hK K' hE8 hV8 hL8 hq8 hs8 c8 f8
        try simp only [Act.put, List.setIfInBounds_toArray, List.set_cons_zero, List.set_cons_succ]
        refine wpTree_nil hOps (by kernel_rfl) ?_
        refine hT.out _ _ ?_
        simp only [List.drop_succ_cons, List.drop_zero]
        clear hHeld hTok hOps hT
        go_wp2_with fail
        go_meet
        case rel => exact ⟨qa, qac, qb, qbc, zz, rfl, rfl, rfl, hZ9, hE9, hV9, hL9⟩
      · go_simp
        have hb8 : Below w6.heap.size w6 (w6.alloc (.cells #[.slice none 0 0] 27)).drew := (belowAlloc _ _).drew
        have hz7 : Blk (w6.alloc (.cells #[.slice none 0 0] 27)).drew w6.heap.size #[.slice none 0 0] 27 := (Blk.new w6 _ _).drew
        have hE7 := hE6.below hb8
        refine hK.out _ _ (hE7.cell) ?_
        have hV7 := hV6.below hb8
        have hL7 := hL6.below hb8 (Nat.le_refl _)
        obtain ⟨zz, hzz⟩ : ∃ zz, zz = w6.heap.size := ⟨_, rfl⟩
        have hzw : w.heap.size ≤ zz := by rw [hzz]; exact hE6.bel.size
        have hzn : zb ≠ zz := by rw [hzz]; exact Nat.ne_of_lt hV6.box.lt
        rw [← hzz] at hz7 ⊢
        obtain ⟨w7, hw7⟩ : ∃ w7, w7 = (w6.alloc (.cells #[.slice none 0 0] 27)).drew := ⟨_, rfl⟩
        rw [← hw7] at hE7 hV7 hL7 hz7 hb8 ⊢
        replace hzz := Lib.hid hzz
        replace hw7 := Lib.hid hw7
        have hrun7 := hrunT.out _ hb8
        replace hrun7 := Lib.hid hrun7
        clear hK K' hb8 hrunT
        try simp only [Act.put, List.setIfInBounds_toArray, List.set_cons_zero, List.set_cons_succ]
        refine wpTree_1 5 hOps (by kernel_rfl) (by decide) rfl (fun K' hK => ?_)
        go_simp
        refine hrun7.out.mono ?_
        rintro e w8 ⟨qa, qac, qb, qbc, rfl, hq8, hs8, hb8⟩
        dsimp only
        have hE8 := hE7.below hb8
        refine hK.out _ _ (hE8.cell) ?_
        have hV8 := hV7.below hb8
        have hL8 := hL7.below hb8 (Nat.le_refl _)
        have hz8 := hz7.below hb8 hz7.lt
        clear hK K' hb8 hrun7 hz7 hE7 hV7 hL7
        try simp only [Act.put, List.setIfInBounds_toArray, List.set_cons_zero, List.set_cons_succ]
        (refine wpTree_q 6 hTok hOps (by kernel_rfl) rfl rfl ⟨?_, ?_, ?_⟩; rotate_left; (focus (intro wx hSx; (try dsimp only at hSx); go_simp; (try with_reducible rfl))); (simp only [Act.put, List.setIfInBounds_toArray, List.set_cons_zero, List.set_cons_succ]))
        (refine wpTree_q 7 hTok hOps (by kernel_rfl) rfl rfl ⟨?_, ?_, ?_⟩; rotate_left; (focus (intro wx hSx; (try dsimp only at hSx); go_simp; (try with_reducible rfl))); (simp only [Act.put, List.setIfInBounds_toArray, List.set_cons_zero, List.set_cons_succ]))
        (refine wpTree_q 8 hTok hOps (by kernel_rfl) rfl rfl ⟨?_, ?_, ?_⟩; rotate_left; (focus (intro wx hSx; (try dsimp only at hSx); go_simp; (try with_reducible rfl))); (simp only [Act.put, List.setIfInBounds_toArray, List.set_cons_zero, List.set_cons_succ]))
        (refine wpTree_q 9 hTok hOps (by kernel_rfl) rfl rfl ⟨?_, ?_, ?_⟩; rotate_left; (focus (intro wx hSx; (try dsimp only at hSx); go_simp; (try with_reducible rfl))); (simp only [Act.put, List.setIfInBounds_toArray, List.set_cons_zero, List.set_cons_succ]))
        (refine wpTree_q 11 hTok hOps (by kernel_rfl) rfl rfl ⟨?_, ?_, ?_⟩; rotate_left; (focus (intro wx hSx; (try dsimp only at hSx); go_simp; (try with_reducible rfl))); (simp only [Act.put, List.setIfInBounds_toArray, List.set_cons_zero, List.set_cons_succ]))
        have c8 := hz8.cellAt (i := 0) (v := .slice none 0 0) rfl
        have f8 := hz8.frozen 0
        refine wpTree_1 12 hOps (by kernel_rfl) (by decide) rfl (fun K' hK => ?_)
        go_simp
        have hE9 := hE8.set hz8 (v := .slice qb 3 qbc) hzw
        have hV9 := hV8.set hz8 hzn (v := .slice qb 3 qbc)
        have hL9 := OwnR.setS hL8 hz8 (u := .slice qb 3 qbc)
        have hq9 := OwnR.setS hq8 hz8 (u := .slice qb 3 qbc)
        have hZ9 := SvB.made hz8 hs8
        refine hK.out _ _ (hE9.cell) ?_
        clear hK K' hE8 hV8 hL8 hq8 hs8 c8 f8
        try simp only [Act.put, List.setIfInBounds_toArray, List.set_cons_zero, List.set_cons_succ]
        refine wpTree_nil hOps (by kernel_rfl) ?_
        refine hT.out _ _ ?_
        simp only [List.drop_succ_cons, List.drop_zero]
        clear hHeld hTok hOps hT
        go_wp2_with fail
        go_meet
        case rel => exact ⟨qa, qac, qb, qbc, zz, rfl, rfl, rfl, hZ9, hE9, hV9, hL9⟩
  case rest =>
    obtain ⟨qa, qac, qb, qbc, z2, rfl, rfl, rfl, hY0, hE0, hV0, hL0⟩ := hcut
    obtain ⟨w6, hw6⟩ : ∃ w6, w6 = wc := ⟨_, rfl⟩
    rw [← hw6] at hY0 hE0 hV0 hL0 ⊢
    have hY6 := hY0
    have hE6 := hE0
    have hV6 := hV0
    have hL6 := hL0
    clear hw6 hY0 hE0 hV0 hL0
    obtain ⟨R, hR⟩ : ∃ R, R = runM (sumsOps arg) [[], K1, []] (recs.drop c) := ⟨_, rfl⟩
    obtain ⟨nm, hnm⟩ : ∃ nm, nm = R.1.length := ⟨_, rfl⟩
    obtain ⟨nb, hnb⟩ : ∃ nb, nb = R.2.1.length := ⟨_, rfl⟩
    obtain ⟨he, hhe⟩ : ∃ he, he = R.2.2 := ⟨_, rfl⟩
    replace hR := Lib.hid hR
    replace hnm := Lib.hid hnm
    replace hnb := Lib.hid hnb
    replace hhe := Lib.hid hhe
    go_upto_region 10 with fail
    go_cut [14, 15, 16] from 61 to 70 (fun s14 s15 s16 wx => ∃ ma mac mb mbc z3, s14 = .slice ma nm mac ∧ s15 = .pointer (some ⟨z3, 0, none⟩) ∧ s16 = .int .i64 (he : Nat) ∧ SvB wx w.heap.size z3 mb nb mbc R.2.1 ∧ Below w.heap.size w wx ∧ SvB wx w.heap.size zb sa 3 sac [[], K0, []] ∧ OwnR wx w.heap.size (.slice la nk lac) K0 ∧ OwnR wx w.heap.size (.slice ma nm mac) R.1)
    case first =>
      have hd6 : Below w6.heap.size w6 w6.drew := (Below.refl _ _).drew
      have hrok : okL (recs.map recP) := fun p hp => by
        obtain ⟨r, hr1, rfl⟩ := List.mem_map.1 hp
        obtain ⟨cs, hrc⟩ := SlA.all hr r hr1
        exact (rec_ok hrc).1
      have hK1ok : okL K1 := by
        rw [hK1.out]
        exact foldKeep_ok (by omega) List.Pairwise.nil (fun p hp => by
          obtain ⟨r, hr1, rfl⟩ := List.mem_map.1 hp
          exact hrok _ (List.mem_map_of_mem (List.mem_of_mem_take hr1))) (fun p hp => by cases hp)
      have hK1len : K1.length ≤ 512 := by
        have h := foldKeep_len (arg : Int) ((recs.take c).map recP) []
        rw [← hK1.out, List.length_map, List.length_take] at h
        have := hn.out
        simp only [List.length_nil] at h
        omega
      have hsok : okS [[], K1, []] := fun l hl => by
        simp only [List.mem_cons, List.not_mem_nil, or_false] at hl
        rcases hl with rfl | rfl | rfl
        · exact fun p hp => by cases hp
        · exact hK1ok
        · exact fun p hp => by cases hp
      have hslen : ∀ l ∈ ([[], K1, []] : ST), l.length ≤ 5864062014805 := fun l hl => by
        simp only [List.mem_cons, List.not_mem_nil, or_false] at hl
        rcases hl with rfl | rfl | rfl
        · exact Nat.zero_le _
        · omega
        · exact Nat.zero_le _
      have hrunT : ∀ x cap', SlA w.heap.size 5 (RRecord w.heap.size) w x cap' (recs.drop c) → ∀ W, Below w6.heap.size w6 W → Calls Try.prog 10 #[.agg #[.slice (some ⟨ob, 0, none⟩) 3 3], .agg #[.slice qb 3 qbc], .slice x (n - c) cap'] W (fun e w' => ∃ qa qac qb qbc, e = .returned (.tuple #[.slice qa nm qac, .agg #[.slice qb nb qbc], .int .i64 (he : Nat)]) ∧ OwnR w' w.heap.size (.slice qa nm qac) R.1 ∧ StO w' w.heap.size (.slice qb nb qbc) R.2.1 ∧ Below W.heap.size W w') := fun x cap' hx W hW => by
        have hEW := hE6.below hW
        have hrW : SlA W.heap.size 5 (RRecord W.heap.size) W x cap' (recs.drop c) := hx.imp hEW.bel hEW.bel.size (fun _ _ _ h => h.imp hEW.bel hEW.bel.size)
        have hcl : n - c = (recs.drop c).length := by rw [List.length_drop, hn.out]
        exact hEW.runG hawf.out (hY6.below hW).own.rd.2 hrW rfl hcl hsok hslen hR.out hnm.out hnb.out hhe.out
      have x6 := hE6.cell
      have y6 := hY6.cell
      have hzbl := hV6.box.lt
      have hrnil := hr.2.2.1
      have hrcap := hr.1
      rw [← hn.out] at hrcap
      have hrcm := hr.2.1
      unfold maxLen at hrcm
      clear hrok hK1ok hK1len hsok hslen
      replace hrunT := Lib.hid hrunT
      cases ra with
      | none =>
        have hrc0 : rcap = 0 := hrnil rfl
        subst hrc0
        obtain rfl : n = 0 := by omega
        obtain rfl : c = 0 := by omega
        replace hrunT := Lib.hid (hrunT.out none 0 hr)
        clear hrnil
        refine wp_region_tree (fun wx => wx.cell? ⟨xb, 0, none⟩ = some (.slice (some ⟨ob, 0, none⟩) 3 3) ∧ wx.cell? ⟨z2, 0, none⟩ = some (.slice qb 3 qbc)) 13 14 (by kernel_rfl) rfl (by kernel_rfl) (fun d _ _ _ _ h => by cases d <;> exact h) (⟨x6, y6⟩) (fun opz T hOps hT hTok hHeld => ?_)
        (refine wpTree_q 0 hTok hOps (by kernel_rfl) rfl rfl ⟨?_, ?_, ?_⟩; rotate_left; (focus (intro wx hSx; (try dsimp only at hSx); go_simp; (try with_reducible rfl))); (simp only [Act.put, List.setIfInBounds_toArray, List.set_cons_zero, List.set_cons_succ]))
        (refine wpTree_q 1 hTok hOps (by kernel_rfl) rfl rfl ⟨?_, ?_, ?_⟩; rotate_left; (focus (intro wx hSx; (try dsimp only at hSx); go_simp; (try with_reducible rfl))); (simp only [Act.put, List.setIfInBounds_toArray, List.set_cons_zero, List.set_cons_succ]))
        (refine wpTree_q 2 hTok hOps (by kernel_rfl) rfl rfl ⟨?_, ?_, ?_⟩; rotate_left; (focus (intro wx hSx; (try dsimp only at hSx); go_simp; (try with_reducible rfl))); (simp only [Act.put, List.setIfInBounds_toArray, List.set_cons_zero, List.set_cons_succ]))
        (refine wpTree_q 3 hTok hOps (by kernel_rfl) rfl rfl ⟨?_, ?_, ?_⟩; rotate_left; (focus (intro wx hSx; (try dsimp only at hSx); go_simp; (try with_reducible rfl))); (simp only [Act.put, List.setIfInBounds_toArray, List.set_cons_zero, List.set_cons_succ]))
        (refine wpTree_q 4 hTok hOps (by kernel_rfl) rfl rfl ⟨?_, ?_, ?_⟩; rotate_left; (focus (intro wx hSx; (try dsimp only at hSx); go_simp; (try with_reducible rfl))); (simp only [Act.put, List.setIfInBounds_toArray, List.set_cons_zero, List.set_cons_succ]))
        rw [show ((0 : Nat) : Int) = 0 from rfl]
        refine wpTree_2 5 10 hOps (by kernel_rfl) (by decide) (by decide) rfl rfl (fun K' hK => ?_) (fun K' hK => ?_)
        · go_simp
          refine (hrunT.out _ hd6).mono ?_
          rintro e w7 ⟨ma, mac, mb, mbc, rfl, hq7, hs7, hb7⟩
          have hb67 : Below w6.heap.size w6 w7 := hd6.trans (hb7.mono hd6.size)
          dsimp only
          refine hK.out _ _ (⟨(hE6.below hb67).cell, (hY6.below hb67).cell⟩) ?_
          clear hK K' hb7 hrunT hd6
          try simp only [Act.put, List.setIfInBounds_toArray, List.set_cons_zero, List.set_cons_succ]
          (refine wpTree_q 6 hTok hOps (by kernel_rfl) rfl rfl ⟨?_, ?_, ?_⟩; rotate_left; (focus (intro wx hSx; (try dsimp only at hSx); go_simp; (try with_reducible rfl))); (simp only [Act.put, List.setIfInBounds_toArray, List.set_cons_zero, List.set_cons_succ]))
          (refine wpTree_q 7 hTok hOps (by kernel_rfl) rfl rfl ⟨?_, ?_, ?_⟩; rotate_left; (focus (intro wx hSx; (try dsimp only at hSx); go_simp; (try with_reducible rfl))); (simp only [Act.put, List.setIfInBounds_toArray, List.set_cons_zero, List.set_cons_succ]))
          (refine wpTree_q 8 hTok hOps (by kernel_rfl) rfl rfl ⟨?_, ?_, ?_⟩; rotate_left; (focus (intro wx hSx; (try dsimp only at hSx); go_simp; (try with_reducible rfl))); (simp only [Act.put, List.setIfInBounds_toArray, List.set_cons_zero, List.set_cons_succ]))
          (refine wpTree_q 9 hTok hOps (by kernel_rfl) rfl rfl ⟨?_, ?_, ?_⟩; rotate_left; (focus (intro wx hSx; (try dsimp only at hSx); go_simp; (try with_reducible rfl))); (simp only [Act.put, List.setIfInBounds_toArray, List.set_cons_zero, List.set_cons_succ]))
          refine wpTree_1 10 hOps (by kernel_rfl) (by decide) rfl (fun K' hK => ?_)
          go_simp
          have hb8 : Below w7.heap.size w7 (w7.alloc (.cells #[.slice none 0 0] 27)) := belowAlloc _ _
          have hb68 := hb67.trans (hb8.mono hb67.size)
          have hE8 := hE6.below hb68
          have hY8 := hY6.below hb68
          refine hK.out _ _ ⟨hE8.cell, hY8.cell⟩ ?_
          have hV8 := hV6.below hb68
          have hL8 := hL6.below hb68 (Nat.le_refl _)
          have hs8 := hs7.below hb8
          have hq8 := hq7.below hb8 (Nat.le_refl _)
          have hz8 : Blk (w7.alloc (.cells #[.slice none 0 0] 27)) w7.heap.size #[.slice none 0 0] 27 := Blk.new _ _ _
          obtain ⟨zz, hzz⟩ : ∃ zz, zz = w7.heap.size := ⟨_, rfl⟩
          have hzw : w.heap.size ≤ zz := by rw [hzz]; exact Nat.le_trans hE6.bel.size hb67.size
          have hzn : zb ≠ zz := by rw [hzz]; exact Nat.ne_of_lt (Nat.lt_of_lt_of_le hV6.box.lt hb67.size)
          have hzy : z2 ≠ zz := by rw [hzz]; exact Nat.ne_of_lt (Nat.lt_of_lt_of_le hY6.box.lt hb67.size)
          rw [← hzz] at hz8 ⊢
          obtain ⟨w8, hw8⟩ : ∃ w8, w8 = w7.alloc (.cells #[.slice none 0 0] 27) := ⟨_, rfl⟩
          rw [← hw8] at hE8 hV8 hL8 hs8 hq8 hz8 hY8 ⊢
          replace hzz := Lib.hid hzz
          replace hw8 := Lib.hid hw8
          clear hK K' hb8 hb68 hb67 hs7 hq7
          try simp only [Act.put, List.setIfInBounds_toArray, List.set_cons_zero, List.set_cons_succ]
          (refine wpTree_q 11 hTok hOps (by kernel_rfl) rfl rfl ⟨?_, ?_, ?_⟩; rotate_left; (focus (intro wx hSx; (try dsimp only at hSx); go_simp; (try with_reducible rfl))); (simp only [Act.put, List.setIfInBounds_toArray, List.set_cons_zero, List.set_cons_succ]))
          have c8 := hz8.cellAt (i := 0) (v := .slice none 0 0) rfl
          have f8 := hz8.frozen 0
          refine wpTree_1 12 hOps (by kernel_rfl) (by decide) rfl (fun K' hK => ?_)
          go_simp
          have hE9 := hE8.set hz8 (v := .slice mb nb mbc) hzw
          have hV9 := hV8.set hz8 hzn (v := .slice mb nb mbc)
          have hL9 := OwnR.setS hL8 hz8 (u := .slice mb nb mbc)
          have hq9 := OwnR.setS hq8 hz8 (u := .slice mb nb mbc)
          have hZ9 := SvB.made hz8 hs8
          have hY9 := hY8.set hz8 hzy (v := .slice mb nb mbc)
          refine hK.out _ _ ⟨hE9.cell, hY9.cell⟩ ?_
          clear hK K' hE8 hV8 hL8 hq8 hs8 c8 f8 hY8 hY9
          try simp only [Act.put, List.setIfInBounds_toArray, List.set_cons_zero, List.set_cons_succ]
          refine wpTree_nil hOps (by kernel_rfl) ?_
          refine hT.out _ _ ?_
          simp only [List.drop_succ_cons, List.drop_zero]
          clear hHeld hTok hOps hT
          go_wp2_with fail
          go_meet
          case rel => exact ⟨ma, mac, mb, mbc, zz, rfl, rfl, rfl, hZ9, hE9.bel, hV9, hL9, hq9⟩
        · go_simp
          have hb8 : Below w6.heap.size w6 (w6.alloc (.cells #[.slice none 0 0] 27)).drew := (belowAlloc _ _).drew
          have hz7 : Blk (w6.alloc (.cells #[.slice none 0 0] 27)).drew w6.heap.size #[.slice none 0 0] 27 := (Blk.new w6 _ _).drew
          have hE7 := hE6.below hb8
          have hY7 := hY6.below hb8
          refine hK.out _ _ ⟨hE7.cell, hY7.cell⟩ ?_
          have hV7 := hV6.below hb8
          have hL7 := hL6.below hb8 (Nat.le_refl _)
          obtain ⟨zz, hzz⟩ : ∃ zz, zz = w6.heap.size := ⟨_, rfl⟩
          have hzw : w.heap.size ≤ zz := by rw [hzz]; exact hE6.bel.size
          have hzn : zb ≠ zz := by rw [hzz]; exact Nat.ne_of_lt hV6.box.lt
          have hzy : z2 ≠ zz := by rw [hzz]; exact Nat.ne_of_lt hY6.box.lt
          rw [← hzz] at hz7 ⊢
          obtain ⟨w7, hw7⟩ : ∃ w7, w7 = (w6.alloc (.cells #[.slice none 0 0] 27)).drew := ⟨_, rfl⟩
          rw [← hw7] at hE7 hV7 hL7 hz7 hb8 hY7 ⊢
          replace hzz := Lib.hid hzz
          replace hw7 := Lib.hid hw7
          have hrun7 := hrunT.out _ hb8
          replace hrun7 := Lib.hid hrun7
          clear hK K' hb8 hrunT
          try simp only [Act.put, List.setIfInBounds_toArray, List.set_cons_zero, List.set_cons_succ]
          refine wpTree_1 5 hOps (by kernel_rfl) (by decide) rfl (fun K' hK => ?_)
          go_simp
          refine hrun7.out.mono ?_
          rintro e w8 ⟨ma, mac, mb, mbc, rfl, hq8, hs8, hb8⟩
          dsimp only
          have hE8 := hE7.below hb8
          have hY8 := hY7.below hb8
          refine hK.out _ _ ⟨hE8.cell, hY8.cell⟩ ?_
          have hV8 := hV7.below hb8
          have hL8 := hL7.below hb8 (Nat.le_refl _)
          have hz8 := hz7.below hb8 hz7.lt
          clear hK K' hb8 hrun7 hz7 hE7 hV7 hL7 hY7
          try simp only [Act.put, List.setIfInBounds_toArray, List.set_cons_zero, List.set_cons_succ]
          (refine wpTree_q 6 hTok hOps (by kernel_rfl) rfl rfl ⟨?_, ?_, ?_⟩; rotate_left; (focus (intro wx hSx; (try dsimp only at hSx); go_simp; (try with_reducible rfl))); (simp only [Act.put, List.setIfInBounds_toArray, List.set_cons_zero, List.set_cons_succ]))
          (refine wpTree_q 7 hTok hOps (by kernel_rfl) rfl rfl ⟨?_, ?_, ?_⟩; rotate_left; (focus (intro wx hSx; (try dsimp only at hSx); go_simp; (try with_reducible rfl))); (simp only [Act.put, List.setIfInBounds_toArray, List.set_cons_zero, List.set_cons_succ]))
          (refine wpTree_q 8 hTok hOps (by kernel_rfl) rfl rfl ⟨?_, ?_, ?_⟩; rotate_left; (focus (intro wx hSx; (try dsimp only at hSx); go_simp; (try with_reducible rfl))); (simp only [Act.put, List.setIfInBounds_toArray, List.set_cons_zero, List.set_cons_succ]))
          (refine wpTree_q 9 hTok hOps (by kernel_rfl) rfl rfl ⟨?_, ?_, ?_⟩; rotate_left; (focus (intro wx hSx; (try dsimp only at hSx); go_simp; (try with_reducible rfl))); (simp only [Act.put, List.setIfInBounds_toArray, List.set_cons_zero, List.set_cons_succ]))
          (refine wpTree_q 11 hTok hOps (by kernel_rfl) rfl rfl ⟨?_, ?_, ?_⟩; rotate_left; (focus (intro wx hSx; (try dsimp only at hSx); go_simp; (try with_reducible rfl))); (simp only [Act.put, List.setIfInBounds_toArray, List.set_cons_zero, List.set_cons_succ]))
          have c8 := hz8.cellAt (i := 0) (v := .slice none 0 0) rfl
          have f8 := hz8.frozen 0
          refine wpTree_1 12 hOps (by kernel_rfl) (by decide) rfl (fun K' hK => ?_)
          go_simp
          have hE9 := hE8.set hz8 (v := .slice mb nb mbc) hzw
          have hV9 := hV8.set hz8 hzn (v := .slice mb nb mbc)
          have hL9 := OwnR.setS hL8 hz8 (u := .slice mb nb mbc)
          have hq9 := OwnR.setS hq8 hz8 (u := .slice mb nb mbc)
          have hZ9 := SvB.made hz8 hs8
          have hY9 := hY8.set hz8 hzy (v := .slice mb nb mbc)
          refine hK.out _ _ ⟨hE9.cell, hY9.cell⟩ ?_
          clear hK K' hE8 hV8 hL8 hq8 hs8 c8 f8 hY8 hY9
          try simp only [Act.put, List.setIfInBounds_toArray, List.set_cons_zero, List.set_cons_succ]
          refine wpTree_nil hOps (by kernel_rfl) ?_
          refine hT.out _ _ ?_
          simp only [List.drop_succ_cons, List.drop_zero]
          clear hHeld hTok hOps hT
          go_wp2_with fail
          go_meet
          case rel => exact ⟨ma, mac, mb, mbc, zz, rfl, rfl, rfl, hZ9, hE9.bel, hV9, hL9, hq9⟩
      | some a =>
        clear hrnil
        have hdx := slaDropIf hr c (by rw [← hn.out]; exact hcn)
        obtain ⟨xd, hxd⟩ : ∃ xd, xd = if rcap = c then some a else some (a.add (c * 5)) := ⟨_, rfl⟩
        rw [← hxd] at hdx
        replace hrunT := Lib.hid (hrunT.out xd (rcap - c) hdx)
        replace hxd := Lib.hid hxd
        clear hdx
        refine wp_region_tree (fun wx => wx.cell? ⟨xb, 0, none⟩ = some (.slice (some ⟨ob, 0, none⟩) 3 3) ∧ wx.cell? ⟨z2, 0, none⟩ = some (.slice qb 3 qbc)) 13 14 (by kernel_rfl) rfl (by kernel_rfl) (fun d _ _ _ _ h => by cases d <;> exact h) (⟨x6, y6⟩) (fun opz T hOps hT hTok hHeld => ?_)
        (refine wpTree_q 0 hTok hOps (by kernel_rfl) rfl rfl ⟨?_, ?_, ?_⟩; rotate_left; (focus (intro wx hSx; (try dsimp only at hSx); go_simp; (try with_reducible rfl))); (simp only [Act.put, List.setIfInBounds_toArray, List.set_cons_zero, List.set_cons_succ]))
        (refine wpTree_q 1 hTok hOps (by kernel_rfl) rfl rfl ⟨?_, ?_, ?_⟩; rotate_left; (focus (intro wx hSx; (try dsimp only at hSx); go_simp; (try with_reducible rfl))); (simp only [Act.put, List.setIfInBounds_toArray, List.set_cons_zero, List.set_cons_succ]))
        (refine wpTree_q 2 hTok hOps (by kernel_rfl) rfl rfl ⟨?_, ?_, ?_⟩; rotate_left; (focus (intro wx hSx; (try dsimp only at hSx); go_simp; (try with_reducible rfl))); (simp only [Act.put, List.setIfInBounds_toArray, List.set_cons_zero, List.set_cons_succ]))
        (refine wpTree_q 3 hTok hOps (by kernel_rfl) rfl rfl ⟨?_, ?_, ?_⟩; rotate_left; (focus (intro wx hSx; (try dsimp only at hSx); go_simp; (try with_reducible rfl))); (simp only [Act.put, List.setIfInBounds_toArray, List.set_cons_zero, List.set_cons_succ]))
        (refine wpTree_qg 4 hTok hOps (by kernel_rfl) rfl rfl ⟨?_, ?_, ?_⟩; rotate_left; (focus (intro wx hSx; (try dsimp only at hSx); go_simp; rw [← hxd.out])); (simp only [Act.put, List.setIfInBounds_toArray, List.set_cons_zero, List.set_cons_succ]))
        refine wpTree_2 5 10 hOps (by kernel_rfl) (by decide) (by decide) rfl rfl (fun K' hK => ?_) (fun K' hK => ?_)
        · go_simp
          refine (hrunT.out _ hd6).mono ?_
          rintro e w7 ⟨ma, mac, mb, mbc, rfl, hq7, hs7, hb7⟩
          have hb67 : Below w6.heap.size w6 w7 := hd6.trans (hb7.mono hd6.size)
          dsimp only
          refine hK.out _ _ (⟨(hE6.below hb67).cell, (hY6.below hb67).cell⟩) ?_
          clear hK K' hb7 hrunT hd6
          try simp only [Act.put, List.setIfInBounds_toArray, List.set_cons_zero, List.set_cons_succ]
          (refine wpTree_q 6 hTok hOps (by kernel_rfl) rfl rfl ⟨?_, ?_, ?_⟩; rotate_left; (focus (intro wx hSx; (try dsimp only at hSx); go_simp; (try with_reducible rfl))); (simp only [Act.put, List.setIfInBounds_toArray, List.set_cons_zero, List.set_cons_succ]))
          (refine wpTree_q 7 hTok hOps (by kernel_rfl) rfl rfl ⟨?_, ?_, ?_⟩; rotate_left; (focus (intro wx hSx; (try dsimp only at hSx); go_simp; (try with_reducible rfl))); (simp only [Act.put, List.setIfInBounds_toArray, List.set_cons_zero, List.set_cons_succ]))
          (refine wpTree_q 8 hTok hOps (by kernel_rfl) rfl rfl ⟨?_, ?_, ?_⟩; rotate_left; (focus (intro wx hSx; (try dsimp only at hSx); go_simp; (try with_reducible rfl))); (simp only [Act.put, List.setIfInBounds_toArray, List.set_cons_zero, List.set_cons_succ]))
          (refine wpTree_q 9 hTok hOps (by kernel_rfl) rfl rfl ⟨?_, ?_, ?_⟩; rotate_left; (focus (intro wx hSx; (try dsimp only at hSx); go_simp; (try with_reducible rfl))); (simp only [Act.put, List.setIfInBounds_toArray, List.set_cons_zero, List.set_cons_succ]))
          refine wpTree_1 10 hOps (by kernel_rfl) (by decide) rfl (fun K' hK => ?_)
          go_simp
          have hb8 : Below w7.heap.size w7 (w7.alloc (.cells #[.slice none 0 0] 27)) := belowAlloc _ _
          have hb68 := hb67.trans (hb8.mono hb67.size)
          have hE8 := hE6.below hb68
          have hY8 := hY6.below hb68
          refine hK.out _ _ ⟨hE8.cell, hY8.cell⟩ ?_
          have hV8 := hV6.below hb68
          have hL8 := hL6.below hb68 (Nat.le_refl _)
          have hs8 := hs7.below hb8
          have hq8 := hq7.below hb8 (Nat.le_refl _)
          have hz8 : Blk (w7.alloc (.cells #[.slice none 0 0] 27)) w7.heap.size #[.slice none 0 0] 27 := Blk.new _ _ _
          obtain ⟨zz, hzz⟩ : ∃ zz, zz = w7.heap.size := ⟨_, rfl⟩
          have hzw : w.heap.size ≤ zz := by rw [hzz]; exact Nat.le_trans hE6.bel.size hb67.size
          have hzn : zb ≠ zz := by rw [hzz]; exact Nat.ne_of_lt (Nat.lt_of_lt_of_le hV6.box.lt hb67.size)
          have hzy : z2 ≠ zz := by rw [hzz]; exact Nat.ne_of_lt (Nat.lt_of_lt_of_le hY6.box.lt hb67.size)
          rw [← hzz] at hz8 ⊢
          obtain ⟨w8, hw8⟩ : ∃ w8, w8 = w7.alloc (.cells #[.slice none 0 0] 27) := ⟨_, rfl⟩
          rw [← hw8] at hE8 hV8 hL8 hs8 hq8 hz8 hY8 ⊢
          replace hzz := Lib.hid hzz
          replace hw8 := Lib.hid hw8
          clear hK K' hb8 hb68 hb67 hs7 hq7
          try simp only [Act.put, List.setIfInBounds_toArray, List.set_cons_zero, List.set_cons_succ]
          (refine wpTree_q 11 hTok hOps (by kernel_rfl) rfl rfl ⟨?_, ?_, ?_⟩; rotate_left; (focus (intro wx hSx; (try dsimp only at hSx); go_simp; (try with_reducible rfl))); (simp only [Act.put, List.setIfInBounds_toArray, List.set_cons_zero, List.set_cons_succ]))
          have c8 := hz8.cellAt (i := 0) (v := .slice none 0 0) rfl
          have f8 := hz8.frozen 0
          refine wpTree_1 12 hOps (by kernel_rfl) (by decide) rfl (fun K' hK => ?_)
          go_simp
          have hE9 := hE8.set hz8 (v := .slice mb nb mbc) hzw
          have hV9 := hV8.set hz8 hzn (v := .slice mb nb mbc)
          have hL9 := OwnR.setS hL8 hz8 (u := .slice mb nb mbc)
          have hq9 := OwnR.setS hq8 hz8 (u := .slice mb nb mbc)
          have hZ9 := SvB.made hz8 hs8
          have hY9 := hY8.set hz8 hzy (v := .slice mb nb mbc)
          refine hK.out _ _ ⟨hE9.cell, hY9.cell⟩ ?_
          clear hK K' hE8 hV8 hL8 hq8 hs8 c8 f8 hY8 hY9
          try simp only [Act.put, List.setIfInBounds_toArray, List.set_cons_zero, List.set_cons_succ]
          refine wpTree_nil hOps (by kernel_rfl) ?_
          refine hT.out _ _ ?_
          simp only [List.drop_succ_cons, List.drop_zero]
          clear hHeld hTok hOps hT
          go_wp2_with fail
          go_meet
          case rel => exact ⟨ma, mac, mb, mbc, zz, rfl, rfl, rfl, hZ9, hE9.bel, hV9, hL9, hq9⟩
        · go_simp
          have hb8 : Below w6.heap.size w6 (w6.alloc (.cells #[.slice none 0 0] 27)).drew := (belowAlloc _ _).drew
          have hz7 : Blk (w6.alloc (.cells #[.slice none 0 0] 27)).drew w6.heap.size #[.slice none 0 0] 27 := (Blk.new w6 _ _).drew
          have hE7 := hE6.below hb8
          have hY7 := hY6.below hb8
          refine hK.out _ _ ⟨hE7.cell, hY7.cell⟩ ?_
          have hV7 := hV6.below hb8
          have hL7 := hL6.below hb8 (Nat.le_refl _)
          obtain ⟨zz, hzz⟩ : ∃ zz, zz = w6.heap.size := ⟨_, rfl⟩
          have hzw : w.heap.size ≤ zz := by rw [hzz]; exact hE6.bel.size
          have hzn : zb ≠ zz := by rw [hzz]; exact Nat.ne_of_lt hV6.box.lt
          have hzy : z2 ≠ zz := by rw [hzz]; exact Nat.ne_of_lt hY6.box.lt
          rw [← hzz] at hz7 ⊢
          obtain ⟨w7, hw7⟩ : ∃ w7, w7 = (w6.alloc (.cells #[.slice none 0 0] 27)).drew := ⟨_, rfl⟩
          rw [← hw7] at hE7 hV7 hL7 hz7 hb8 hY7 ⊢
          replace hzz := Lib.hid hzz
          replace hw7 := Lib.hid hw7
          have hrun7 := hrunT.out _ hb8
          replace hrun7 := Lib.hid hrun7
          clear hK K' hb8 hrunT
          try simp only [Act.put, List.setIfInBounds_toArray, List.set_cons_zero, List.set_cons_succ]
          refine wpTree_1 5 hOps (by kernel_rfl) (by decide) rfl (fun K' hK => ?_)
          go_simp
          refine hrun7.out.mono ?_
          rintro e w8 ⟨ma, mac, mb, mbc, rfl, hq8, hs8, hb8⟩
          dsimp only
          have hE8 := hE7.below hb8
          have hY8 := hY7.below hb8
          refine hK.out _ _ ⟨hE8.cell, hY8.cell⟩ ?_
          have hV8 := hV7.below hb8
          have hL8 := hL7.below hb8 (Nat.le_refl _)
          have hz8 := hz7.below hb8 hz7.lt
          clear hK K' hb8 hrun7 hz7 hE7 hV7 hL7 hY7
          try simp only [Act.put, List.setIfInBounds_toArray, List.set_cons_zero, List.set_cons_succ]
          (refine wpTree_q 6 hTok hOps (by kernel_rfl) rfl rfl ⟨?_, ?_, ?_⟩; rotate_left; (focus (intro wx hSx; (try dsimp only at hSx); go_simp; (try with_reducible rfl))); (simp only [Act.put, List.setIfInBounds_toArray, List.set_cons_zero, List.set_cons_succ]))
          (refine wpTree_q 7 hTok hOps (by kernel_rfl) rfl rfl ⟨?_, ?_, ?_⟩; rotate_left; (focus (intro wx hSx; (try dsimp only at hSx); go_simp; (try with_reducible rfl))); (simp only [Act.put, List.setIfInBounds_toArray, List.set_cons_zero, List.set_cons_succ]))
          (refine wpTree_q 8 hTok hOps (by kernel_rfl) rfl rfl ⟨?_, ?_, ?_⟩; rotate_left; (focus (intro wx hSx; (try dsimp only at hSx); go_simp; (try with_reducible rfl))); (simp only [Act.put, List.setIfInBounds_toArray, List.set_cons_zero, List.set_cons_succ]))
          (refine wpTree_q 9 hTok hOps (by kernel_rfl) rfl rfl ⟨?_, ?_, ?_⟩; rotate_left; (focus (intro wx hSx; (try dsimp only at hSx); go_simp; (try with_reducible rfl))); (simp only [Act.put, List.setIfInBounds_toArray, List.set_cons_zero, List.set_cons_succ]))
          (refine wpTree_q 11 hTok hOps (by kernel_rfl) rfl rfl ⟨?_, ?_, ?_⟩; rotate_left; (focus (intro wx hSx; (try dsimp only at hSx); go_simp; (try with_reducible rfl))); (simp only [Act.put, List.setIfInBounds_toArray, List.set_cons_zero, List.set_cons_succ]))
          have c8 := hz8.cellAt (i := 0) (v := .slice none 0 0) rfl
          have f8 := hz8.frozen 0
          refine wpTree_1 12 hOps (by kernel_rfl) (by decide) rfl (fun K' hK => ?_)
          go_simp
          have hE9 := hE8.set hz8 (v := .slice mb nb mbc) hzw
          have hV9 := hV8.set hz8 hzn (v := .slice mb nb mbc)
          have hL9 := OwnR.setS hL8 hz8 (u := .slice mb nb mbc)
          have hq9 := OwnR.setS hq8 hz8 (u := .slice mb nb mbc)
          have hZ9 := SvB.made hz8 hs8
          have hY9 := hY8.set hz8 hzy (v := .slice mb nb mbc)
          refine hK.out _ _ ⟨hE9.cell, hY9.cell⟩ ?_
          clear hK K' hE8 hV8 hL8 hq8 hs8 c8 f8 hY8 hY9
          try simp only [Act.put, List.setIfInBounds_toArray, List.set_cons_zero, List.set_cons_succ]
          refine wpTree_nil hOps (by kernel_rfl) ?_
          refine hT.out _ _ ?_
          simp only [List.drop_succ_cons, List.drop_zero]
          clear hHeld hTok hOps hT
          go_wp2_with fail
          go_meet
          case rel => exact ⟨ma, mac, mb, mbc, zz, rfl, rfl, rfl, hZ9, hE9.bel, hV9, hL9, hq9⟩
    case rest =>
      obtain ⟨ma, mac, mb, mbc, z3, rfl, rfl, rfl, hZ0, hB0, hV0, hL0, hM0⟩ := hcut
      obtain ⟨wo, hwo⟩ : ∃ wo, wo = wc := ⟨_, rfl⟩
      rw [← hwo] at hZ0 hB0 hV0 hL0 hM0 ⊢
      clear hwo hY6 hE6 hV6 hL6
      have hrs := (recs_sla (hr.imp hB0 hB0.size (fun _ _ _ h => h.imp hB0 hB0.size))).1
      go_wp2_with fail
      go_loopw [17] (fun x17 wr => ∃ k : Nat, k ≤ n ∧ x17 = .int .i64 k ∧ Below wo.heap.size wo wr ∧ Hid (∀ j (hj : j < recs.length), j < k → recs[j].fKey.size ≤ 32)) (fun x17 _ => n - (intOf x17).toNat)
      case atStart => exact ⟨0, Nat.zero_le _, rfl, Below.refl _ _, Lib.hid (fun j _ h => absurd h (Nat.not_lt_zero _))⟩
      case round =>
        obtain ⟨k, hk, rfl, hbr, hpre⟩ := hrel
        have hbw := hB0.trans (hbr.mono hB0.size)
        by_cases hkn : k < n
        · have d1 : decide ((k : Int) < (n : Int)) = true := by simp; omega
          have hkl : k < recs.length := by rw [← hn.out]; exact hkn
          obtain ⟨rb, roff, rfl, hrb, _⟩ := hrs.addr (by omega)
          obtain ⟨cs, _, hc, rfl, _⟩ := hrs.get k hkl
          have t3 := (hbr.cell (p := ⟨rb, roff + k * 5 + 3, none⟩) hrb).trans (by simpa [encD, Nat.add_assoc] using hc 3 (by simp [encD]))
          obtain ⟨key, hkey⟩ : ∃ key, key = recs[k].fKey := ⟨_, rfl⟩
          rw [← hkey] at t3
          replace hkey := Lib.hid hkey
          clear hc hrs hr hZ0 hV0 hL0 hM0
          by_cases hbk : 32 < key.size
          · have d2 : decide ((32 : Int) < (key.size : Int)) = true := by simp; omega
            go_wp2_with fail
            go_ret
            exact ⟨rfl, hbw⟩
          · have d2 : decide ((32 : Int) < (key.size : Int)) = false := by simp; omega
            have hpre' : Hid (∀ j (hj : j < recs.length), j < k + 1 → recs[j].fKey.size ≤ 32) := Lib.hid (fun j hj hjk => by
              by_cases e : j = k
              · subst e
                rw [← hkey.out]
                omega
              · exact hpre.out j hj (by omega))
            go_wp2_with fail
            go_roundw
            case rel => exact ⟨k + 1, by omega, by go_num, hbr, hpre'⟩
            case measure => simp [intOf]; omega
        · have d1 : decide ((k : Int) < (n : Int)) = false := by simp; omega
          have hall : ∀ r ∈ recs, r.fKey.size ≤ 32 := fun r hr1 => by
            obtain ⟨j, hj, rfl⟩ := List.mem_iff_getElem.1 hr1
            exact hpre.out j hj (by have := hn.out; omega)
          obtain ⟨e1, e2, hsub⟩ := epochs_law (by omega) (by omega) recs c (by have := hn.out; omega) hall hK0.out hK1.out hR.out
          obtain rfl : nb = 3 := by rw [hnb.out, e1]; rfl
          obtain rfl : he = 0 := by rw [hhe.out, e2]
          have hZ := hZ0.below hbr
          have hV := hV0.below hbr
          have hL := hL0.below hbr (Nat.le_refl _)
          have hM := hM0.below hbr (Nat.le_refl _)
          rw [e1] at hZ
          replace hsub := Lib.hid hsub
          clear hZ0 hV0 hL0 hM0 hbr e1 e2 hall hpre hrs hr
          have hsS := hV.own.rd.2
          have hsZ := hZ.own.rd.2
          obtain ⟨sb, soff, kao, kc, rfl, hsb, ek, hPk⟩ := StA.kept hsS (i := 1) (by simp)
          rw [show keptAt [[], K0, []] 1 = K0 from rfl] at ek hPk
          rw [← hnk.out] at ek
          have v1 := hV.cell
          have z1 := hZ.cell
          have hvl := hV.box.lt
          have hst := sameSt_any [[], K0, []] [[], K0, []] (some ⟨sb, soff, none⟩) mb sac mbc _ wr (Nat.le_refl _) hsS hsZ
          rw [stEq_self] at hst
          replace hst := Lib.hid hst
          clear hsS hsZ hZ hV
          go_wp2_with (go_at_call 14; refine Shut.out ?ks2)
          unfold Shut
          refine hst.out.mono ?_
          rintro e w8 ⟨rfl, hb8⟩
          have hbw8 := hbw.trans (hb8.mono hbw.size)
          have ek8 := (hb8.cell (p := ⟨sb, soff + 1, none⟩) hsb).trans ek
          have v8 := (hb8.cell (p := ⟨zb, 0, none⟩) hvl).trans v1
          have hL8 := hL.below hb8 (Nat.le_refl _)
          have hM8 := hM.below hb8 (Nat.le_refl _)
          have hP8 : PrA w8.heap.size w8 kao kc K0 := hPk.imp' hb8 hb8.size
          have hsp := same_any K0 K0 la kao lac kc _ w8 (Nat.le_refl _) (OwnR.rd hL8).2 hP8
          rw [decide_eq_true rfl, ← hnk.out] at hsp
          replace hsp := Lib.hid hsp
          clear hst hb8 ek v1 z1 hL hM hP8 hPk hbw
          dsimp only
          go_wp2_with (go_at_call 13; refine Shut.out ?ks3)
          unfold Shut
          refine hsp.out.mono ?_
          rintro e w9 ⟨rfl, hb9⟩
          have hbw9 := hbw8.trans (hb9.mono hbw8.size)
          have hL9 := hL8.below hb9 (Nat.le_refl _)
          have hM9 := hM8.below hb9 (Nat.le_refl _)
          clear hsp hb9 ek8 v8 hL8 hM8 hbw8
          dsimp only
          have hnml := (OwnR.rd hM9).2.len
          rw [← hnm.out] at hnml
          have hnkl := (OwnR.rd hL9).2.len
          rw [← hnk.out] at hnkl
          go_wp2_with fail
          go_loopw [18] (fun x18 wr => ∃ i : Nat, i ≤ nm ∧ x18 = .int .i64 i ∧ Below w9.heap.size w9 wr) (fun x18 _ => nm - (intOf x18).toNat)
          case atStart => exact ⟨0, Nat.zero_le _, rfl, Below.refl _ _⟩
          case round =>
            obtain ⟨i, hi, rfl, hbi⟩ := hrel
            obtain ⟨wi, rfl⟩ : ∃ wi, wi = wr := ⟨_, rfl⟩
            have hbwi := hbw9.trans (hbi.mono hbw9.size)
            by_cases hin : i < nm
            · have d5 : decide ((i : Int) < (nm : Int)) = true := by simp; omega
              have hil : i < R.1.length := by rw [← hnm.out]; exact hin
              obtain ⟨xm, xmm, rfl, hxm, _⟩ := (OwnR.rd hM9).2.addr (by omega)
              obtain ⟨cs, _, hc, rfl, _⟩ := (OwnR.rd hM9).2.get i hil
              have p0 := (hbi.cell (p := ⟨xm, xmm + i * 2, none⟩) hxm).trans (by simpa [encR] using hc 0 (by simp [encR]))
              have p1 := (hbi.cell (p := ⟨xm, xmm + i * 2 + 1, none⟩) hxm).trans (by simpa [encR, Nat.add_assoc] using hc 1 (by simp [encR]))
              have hxmi : xm < wi.heap.size := Nat.lt_of_lt_of_le hxm hbi.size
              obtain ⟨pk, hpk⟩ : ∃ pk, pk = R.1[i].1 := ⟨_, rfl⟩
              obtain ⟨pv, hpv⟩ : ∃ pv, pv = R.1[i].2 := ⟨_, rfl⟩
              rw [← hpk] at p0
              rw [← hpv] at p1
              have hmem : (pk, pv) ∈ K0 := by rw [hpk, hpv]; exact hsub.out _ (List.getElem_mem hil)
              replace hpk := Lib.hid hpk
              replace hpv := Lib.hid hpv
              replace hmem := Lib.hid hmem
              have hLi := hL9.below hbi (Nat.le_refl _)
              clear hc
              go_wp2_with fail
              go_loopw [19, 20] (fun x19 x20 wr => ∃ (k : Nat) (fnd : Bool), k ≤ nk ∧ x20 = .int .i64 k ∧ x19 = .bool fnd ∧ Below wi.heap.size wi wr ∧ Hid (fnd = true ↔ (pk, pv) ∈ K0.take k)) (fun _ x20 _ => nk - (intOf x20).toNat)
              case atStart => exact ⟨0, false, Nat.zero_le _, rfl, rfl, Below.refl _ _, Lib.hid (by simp)⟩
              case round =>
                obtain ⟨q, fnd, hq, rfl, rfl, hbq, hfnd⟩ := hrel
                have hbwq := hbwi.trans (hbq.mono hbwi.size)
                have p0q := (hbq.cell (p := ⟨xm, xmm + i * 2, none⟩) hxmi).trans p0
                have p1q := (hbq.cell (p := ⟨xm, xmm + i * 2 + 1, none⟩) hxmi).trans p1
                by_cases hqn : q < nk
                · have d6 : decide ((q : Int) < (nk : Int)) = true := by simp; omega
                  have hql : q < K0.length := by rw [← hnk.out]; exact hqn
                  have hLq := OwnL.below hLi hbq (Nat.le_refl _)
                  obtain ⟨xl, xlo, rfl, hxl, _⟩ := (OwnR.rd hLq).2.addr (by omega)
                  obtain ⟨cs, _, hc, rfl, _⟩ := (OwnR.rd hLq).2.get q hql
                  have l0 : wr.cell? ⟨xl, xlo + q * 2, none⟩ = some (.string K0[q].1) := by simpa [encR] using hc 0 (by simp [encR])
                  have l1 : wr.cell? ⟨xl, xlo + q * 2 + 1, none⟩ = some (.int .u32 (K0[q].2 : Nat)) := by simpa [encR, Nat.add_assoc] using hc 1 (by simp [encR])
                  obtain ⟨lk, hlk⟩ : ∃ lk, lk = K0[q].1 := ⟨_, rfl⟩
                  obtain ⟨lv, hlv⟩ : ∃ lv, lv = K0[q].2 := ⟨_, rfl⟩
                  rw [← hlk] at l0
                  rw [← hlv] at l1
                  have hnext : ((pk, pv) ∈ K0.take (q + 1)) ↔ ((pk, pv) ∈ K0.take q ∨ (lk = pk ∧ lv = pv)) := by
                    rw [List.take_succ_eq_append_getElem hql, List.mem_append, List.mem_singleton, hlk, hlv]
                    constructor
                    · rintro (h | h)
                      · exact .inl h
                      · exact .inr (by rw [← h]; exact ⟨rfl, rfl⟩)
                    · rintro (h | ⟨h1, h2⟩)
                      · exact .inl h
                      · exact .inr (by rw [← h1, ← h2])
                  replace hlk := Lib.hid hlk
                  replace hlv := Lib.hid hlv
                  replace hnext := Lib.hid hnext
                  clear hc
                  cases fnd with
                  | true =>
                    have hf2 : Hid (true = true ↔ (pk, pv) ∈ K0.take (q + 1)) := Lib.hid ⟨fun _ => hnext.out.2 (.inl (hfnd.out.1 rfl)), fun _ => rfl⟩
                    go_upto_region 25 with fail
                    refine wp_region_quiet_tail 10 (by kernel_rfl) (by kernel_rfl) ?_
                    simp only [List.take_succ_cons, List.take_zero, List.drop_succ_cons, List.drop_zero]
                    repeat (go_big_quiet_step (fail))
                    refine wpQuiet_nil ?_
                    rintro w5 ⟨m, hm⟩
                    subst hm
                    go_wp2_with fail
                    go_roundw
                    case rel => exact ⟨q + 1, true, by omega, by go_num, rfl, below_drewN hbq m, hf2⟩
                    case measure => simp [intOf]; omega
                  | false =>
                    by_cases hk1 : lk = pk
                    · subst hk1
                      by_cases hk2 : lv = pv
                      · subst hk2
                        have hf2 : Hid (true = true ↔ (lk, lv) ∈ K0.take (q + 1)) := Lib.hid ⟨fun _ => hnext.out.2 (.inr ⟨rfl, rfl⟩), fun _ => rfl⟩
                        clear hnext hfnd
                        go_upto_region 25 with fail
                        refine wp_region_quiet_tail 10 (by kernel_rfl) (by kernel_rfl) ?_
                        simp only [List.take_succ_cons, List.take_zero, List.drop_succ_cons, List.drop_zero]
                        repeat (go_big_quiet_step (fail))
                        refine wpQuiet_nil ?_
                        rintro w5 ⟨m, hm⟩
                        subst hm
                        go_wp2_with fail
                        go_roundw
                        case rel => exact ⟨q + 1, true, by omega, by go_num, rfl, below_drewN hbq m, hf2⟩
                        case measure => simp [intOf]; omega
                      · have hv1 : ¬ (lv : Int) = (pv : Int) := fun e => hk2 (Int.ofNat_inj.1 e)
                        have hv2 : ((lv : Int) == (pv : Int)) = false := by simpa using hv1
                        have hf2 : Hid (false = true ↔ (lk, pv) ∈ K0.take (q + 1)) := Lib.hid ⟨fun h => (nomatch h), fun h => by
                          rcases hnext.out.1 h with h | h
                          · exact hfnd.out.2 h
                          · exact absurd h.2 hk2⟩
                        clear hnext hfnd hk2
                        go_upto_region 25 with fail
                        refine wp_region_quiet_tail 10 (by kernel_rfl) (by kernel_rfl) ?_
                        simp only [List.take_succ_cons, List.take_zero, List.drop_succ_cons, List.drop_zero]
                        repeat (go_big_quiet_step (fail))
                        refine wpQuiet_nil ?_
                        rintro w5 ⟨m, hm⟩
                        subst hm
                        go_wp2_with fail
                        go_roundw
                        case rel => exact ⟨q + 1, false, by omega, by go_num, rfl, below_drewN hbq m, hf2⟩
                        case measure => simp [intOf]; omega
                    · have hv1 : ¬ lk.toList = pk.toList := fun e => hk1 (by
                        rw [ByteArray.toList_eq, ByteArray.toList_eq] at e
                        obtain ⟨⟨x⟩⟩ := lk
                        obtain ⟨⟨y⟩⟩ := pk
                        simpa using e)
                      have hv2 : (lk.toList == pk.toList) = false := by simpa using hv1
                      have hf2 : Hid (false = true ↔ (pk, pv) ∈ K0.take (q + 1)) := Lib.hid ⟨fun h => (nomatch h), fun h => by
                        rcases hnext.out.1 h with h | h
                        · exact hfnd.out.2 h
                        · exact absurd h.1 hk1⟩
                      clear hnext hfnd hk1
                      go_upto_region 25 with fail
                      refine wp_region_quiet_tail 10 (by kernel_rfl) (by kernel_rfl) ?_
                      simp only [List.take_succ_cons, List.take_zero, List.drop_succ_cons, List.drop_zero]
                      repeat (go_big_quiet_step (fail))
                      refine wpQuiet_nil ?_
                      rintro w5 ⟨m, hm⟩
                      subst hm
                      go_wp2_with fail
                      go_roundw
                      case rel => exact ⟨q + 1, false, by omega, by go_num, rfl, below_drewN hbq m, hf2⟩
                      case measure => simp [intOf]; omega
                · have d6 : decide ((q : Int) < (nk : Int)) = false := by simp; omega
                  obtain rfl : fnd = true := hfnd.out.2 (by
                    have hql : q = K0.length := by rw [← hnk.out]; omega
                    rw [hql, List.take_length]
                    exact hmem.out)
                  clear hfnd
                  go_wp2_with fail
                  go_roundw
                  case rel => exact ⟨i + 1, by omega, by go_num, hbi.trans (hbq.mono hbi.size)⟩
                  case measure => simp [intOf]; omega
            · have d5 : decide ((i : Int) < (nm : Int)) = false := by simp; omega
              go_wp2_with fail
              go_ret
              exact ⟨rfl, hbwi⟩
end Go.Proofs.Ytbianedgogdeeaa
