/- Gossip: the example. -/
import Derived.Test.YtjmbafcpbagpdaaJa
import Derived.Test.YtjmbafcpbagpdaaJc
namespace Go.Proofs.Ytjmbafcpbagpdaa
open Go.RowKit Go.Shelf Go.Maps
set_option linter.unusedVariables false
set_option linter.unusedSimpArgs false

theorem Gos.out {w : World} {A U gb N M : Nat} {X : Nat → Prop} {p : GP} {ops : List TOp} {m : GM} (h : Gos w A U X gb p ops m N M) {b : Nat} (hb : w.heap.size ≤ b) : ¬ Foot A U X b := fun e => by have := h.foot_lt e; omega
theorem doM_no {ops : List TOp} {m : GM} {k : Int} {l : List TCount} (h : doE ops m k l ≠ 0) : doM ops m k l = m := by unfold doM; rw [if_neg h]
theorem gnew_all (k : Int) (l : List TCount) (la : Option Addr) (lc M : Nat) (ops : List TOp) (ao : Option Addr) (cap : Nat) (w : World) (hx : SlA w.heap.size 7 (ROp w.heap.size) w ao cap ops) (hzi : ∀ o ∈ ops, o.fIn.length * 8 ≤ 140737488355328)
    (hl : SlA w.heap.size 4 (RCount w.heap.size) w la lc l) (hz : l.length * 32 ≤ 140737488355328) :
    Calls Try.prog 7 #[.agg #[.slice ao ops.length cap], .int .i64 k, .slice la l.length lc] w (NewP w ops k l M) := by
  by_cases hok : (gcheck ops).2 = 0
  · by_cases hbad : ¬ (1 ≤ k ∧ k ≤ 8) ∨ ∃ c ∈ l, c.fN < 0
    · exact gnew_arg k l la lc M ops ao cap w hx hok hzi hl hz hbad
    · obtain ⟨hb1, hb2⟩ := not_or.1 hbad
      exact gnew_ok k l la lc M ops ao cap w hx hok hzi hl hz (Classical.not_not.1 hb1) hb2
  · exact gnew_no k _ l M ops ao cap w hx hok
def gks : TStamp := ⟨0, ⟨0, 0⟩⟩
def gkt : TStamp := ⟨1, ⟨0, 0⟩⟩
def gk0 : List TCount := [⟨gks, 1⟩]
def gk1 : List TCount := [⟨gkt, 1⟩]
def gk2 : List TCount := [⟨gks, -1⟩, ⟨gkt, 1⟩]
theorem gkE : newGE pkn 2 gk0 = 0 := by
  unfold newGE
  rw [if_neg (by decide), if_neg (by decide), if_neg (by decide), if_neg (by decide +kernel)]
theorem gkD1 : doE pkn (newGM 2 gk0) 0 gk1 = 9 := by
  unfold doE
  rw [if_neg (by decide), if_neg (by decide), if_pos]
  unfold standsF
  have : nxL gk1 = [(gkt, 1)] := by decide +kernel
  rw [this]
  simp [standB]
theorem gkD2 : doE pkn (newGM 2 gk0) 0 gk2 = 0 := by
  unfold doE
  have hn : nxL gk2 = [(gkt, 1), (gks, -1)] := by decide +kernel
  have hr : rch pkn 0 1 = true := rch_iff.2 (.step ⟨_, rfl, by simp⟩ (.refl _))
  have hc : cld pkn gks gkt = true := couldS_mk (by decide) (by decide) (by decide) (by unfold wayS gks gkt; simp [hr])
  have hs : standsF pkn ((newGM 2 gk0).c 0) gk2 = true := by
    unfold standsF
    rw [hn]
    have h0 : (newGM 2 gk0).c 0 gks = 1 := by decide +kernel
    have hw : wrap64 1 = 1 := IntWalk.wrap64_in _ (by omega)
    simp [standB, hc, h0, hw]
  rw [if_neg (by decide), if_neg (by decide), hs, if_neg (by simp), if_neg, if_neg (by decide +kernel)]
  rintro ⟨j, _, h⟩
  simp [newGM] at h
theorem gkW : waitN (doM pkn (newGM 2 gk0) 0 gk2) 0 1 = 1 := by
  unfold doM
  rw [if_pos gkD2]
  rfl
open Classical in
theorem gkF : doneF pkn ((doM pkn (newGM 2 gk0) 0 gk2).c ((1 : Int).toNat + 1)) gks = false := by
  unfold doM
  rw [if_pos gkD2]
  unfold doneF
  rw [show goodS pkn gks.fLoc gks.fT.fEpoch gks.fT.fRound = true by decide, Bool.true_and]
  refine decide_eq_false (fun h => ?_)
  have := h gks (by show 0 < addF (fun _ => 0) gk0 gks; decide +kernel)
  unfold stands at this
  simp at this
theorem belowA (w : World) {u : World} (h : Below w.heap.size w u) (o : Obj) : Below w.heap.size w (u.alloc o) := h.alloc h.size o

set_option maxRecDepth 100000 in
set_option maxHeartbeats 2000000 in
theorem gknown_any (w : World) : Calls Try.prog 6 #[] w fun e w' => e = .returned (.bool true) ∧ Below w.heap.size w w' := by
  go_enter Try.func6, Try.ntmps6
  go_upto_region 4 with fail
  refine Code.wp_world ?_
  intro w5 hw5
  have hrd := pkn_read w
  have hb0 : Below w.heap.size w ((w.alloc (.cells #[.int .i64 0] 3)).alloc (.cells #[.int .i64 1, .slice none 0 0, .int .i64 0, .int .u32 0, .int .i64 0, .int .i64 0, .int .u32 0, .int .i64 8, .slice (some ⟨w.heap.size, 0, none⟩) 1 1, .int .i64 0, .int .u32 0, .int .i64 0, .int .i64 0, .int .u32 0] 62)) := ((Below.refl _ _).alloc (Nat.le_refl _) _).alloc (by simp) _
  have hs0 : ((w.alloc (.cells #[.int .i64 0] 3)).alloc (.cells #[.int .i64 1, .slice none 0 0, .int .i64 0, .int .u32 0, .int .i64 0, .int .i64 0, .int .u32 0, .int .i64 8, .slice (some ⟨w.heap.size, 0, none⟩) 1 1, .int .i64 0, .int .u32 0, .int .i64 0, .int .i64 0, .int .u32 0] 62)).heap.size = w.heap.size + 2 := by simp
  generalize (w.alloc (.cells #[.int .i64 0] 3)).alloc _ = w0 at hrd hb0 hs0 hw5
  have hb5 : Below w0.heap.size w0 w5 := by rw [hw5]; exact belowA _ (belowA _ (below_allocJ _ _) _) _
  have hg5 := imp_ops2 hrd hb5
  have hG5 : Blk w5 (w.heap.size + 2) #[.slice (some ⟨w.heap.size + 1, 0, none⟩) 2 2] 24 := by rw [hw5]; exact ((Blk.new_at w0 _ _ hs0).alloc _).alloc _
  have hS5 : Blk w5 (w.heap.size + 3) #[.int .i64 0, .int .i64 0, .int .i64 0] 47 := by rw [hw5]; exact (Blk.new_at _ _ _ (by simp [hs0])).alloc _
  have hT5 : Blk w5 (w.heap.size + 4) #[.int .i64 1, .int .i64 0, .int .i64 0] 47 := by rw [hw5]; exact Blk.new_at _ _ _ (by simp [hs0])
  have hbel := hb0.trans (hb5.mono hb0.size)
  have hs5 : w5.heap.size = w.heap.size + 5 := by rw [hw5]; simp [hs0]
  obtain ⟨gb0, hgb0⟩ : ∃ g, g = w.heap.size + 2 := ⟨_, rfl⟩
  rw [← hgb0] at hG5 ⊢
  rw [show w.heap.size + 3 = gb0 + 1 by omega] at hS5
  obtain ⟨sb, hsb⟩ : ∃ g, g = gb0 + 1 := ⟨_, rfl⟩
  rw [← hsb] at hS5 ⊢
  rw [show w.heap.size + 4 = sb + 1 by omega] at hT5
  obtain ⟨tb, htb⟩ : ∃ g, g = sb + 1 := ⟨_, rfl⟩
  rw [← htb] at hT5 ⊢
  obtain ⟨ob, hob⟩ : ∃ g, g = w.heap.size + 1 := ⟨_, rfl⟩
  rw [← hob] at hG5 hg5
  have hsl : sb < w5.heap.size := by omega
  have htl : tb < w5.heap.size := by omega
  clear hw5 hb0 hrd hb5 hs0 hgb0 hsb htb hob hs5
  have cg := hG5.cellAt (i := 0) (v := .slice (some ⟨ob, 0, none⟩) 2 2) rfl
  have s0 := hS5.cellAt (i := 0) (v := .int .i64 0) rfl
  have s1 := hS5.cellAt (i := 1) (v := .int .i64 0) rfl
  have s2 := hS5.cellAt (i := 2) (v := .int .i64 0) rfl
  go_wp2_with fail
  have hb6 := below_allocJ w5 (.cells #[.int .i64 0, .int .i64 0, .int .i64 0, .int .i64 1] 57)
  have hB6 := Blk.new w5 #[.int .i64 0, .int .i64 0, .int .i64 0, .int .i64 1] 57
  generalize w5.alloc (.cells #[.int .i64 0, .int .i64 0, .int .i64 0, .int .i64 1] 57) = w6 at hb6 hB6 ⊢
  have hl6 : SlA w6.heap.size 4 (RCount w6.heap.size) w6 (some ⟨w5.heap.size, 0, none⟩) 1 gk0 := by
    refine SlA.of_blk hB6 hB6.lt (by decide) (by unfold maxLen; omega) ?_
    intro i hi
    match i, hi with
    | 0, _ => exact ⟨[.int .i64 0, .int .i64 0, .int .i64 0, .int .i64 1], rfl, fun j hj => (match j, hj with | 0, _ | 1, _ | 2, _ | 3, _ => rfl), rfl, rfl, rfl, rfl, rfl⟩
  refine (gnew_all 2 gk0 _ 1 2 pkn _ 2 w6 (imp_ops2 hg5 hb6) (fun o ho => by
    simp only [pkn, List.mem_cons, List.not_mem_nil, or_false] at ho
    rcases ho with rfl | rfl <;> simp) hl6 (by decide)).mono ?_
  rintro e w7 ⟨hb7, _, hgood⟩
  obtain ⟨gb, p, rfl, hpg, hG⟩ := hgood gkE
  rw [show (2 : Int).toNat = 2 from rfl] at hG
  have hb67 := hb6.trans (hb7.mono hb6.size)
  have hS7 := hS5.below hb67 hsl
  have hT7 := hT5.below hb67 htl
  have hbel7 := hbel.trans (hb67.mono hbel.size)
  have hsl7 : sb < w7.heap.size := hS7.lt
  have htl7 : tb < w7.heap.size := hT7.lt
  have h67 := hb7.size
  have hs6w : sb < w6.heap.size := by have := hb6.size; omega
  have ht6w : tb < w6.heap.size := by have := hb6.size; omega
  have hw6w : w.heap.size ≤ w6.heap.size := by have := hbel.size; have := hb6.size; omega
  clear hgood hl6 hB6 hb6 hb7 hb67 hg5 hG5 hS5 hT5 cg s0 s1 s2 hbel hsl htl
  have s0 := hS7.cellAt (i := 0) (v := .int .i64 0) rfl
  have s1 := hS7.cellAt (i := 1) (v := .int .i64 0) rfl
  have s2 := hS7.cellAt (i := 2) (v := .int .i64 0) rfl
  have t0 := hT7.cellAt (i := 0) (v := .int .i64 1) rfl
  have t1 := hT7.cellAt (i := 1) (v := .int .i64 0) rfl
  have t2 := hT7.cellAt (i := 2) (v := .int .i64 0) rfl
  dsimp only
  go_wp2_with fail
  have hb8 := below_allocJ w7 (.cells #[.int .i64 1, .int .i64 0, .int .i64 0, .int .i64 1] 57)
  have hB8 := Blk.new w7 #[.int .i64 1, .int .i64 0, .int .i64 0, .int .i64 1] 57
  generalize w7.alloc (.cells #[.int .i64 1, .int .i64 0, .int .i64 0, .int .i64 1] 57) = w8 at hb8 hB8 ⊢
  have hl8 : SlA w8.heap.size 4 (RCount w8.heap.size) w8 (some ⟨w7.heap.size, 0, none⟩) 1 gk1 := by
    refine SlA.of_blk hB8 hB8.lt (by decide) (by unfold maxLen; omega) ?_
    intro i hi
    match i, hi with
    | 0, _ => exact ⟨[.int .i64 1, .int .i64 0, .int .i64 0, .int .i64 1], rfl, fun j hj => (match j, hj with | 0, _ | 1, _ | 2, _ | 3, _ => rfl), rfl, rfl, rfl, rfl, rfl⟩
  refine (do_any 0 gk1 _ 1 w8 (hG.below hb8) hpg hl8 (by decide) (by decide) (by decide) (fun _ a e => by cases e; exact hG.out (Nat.le_refl _))).mono ?_
  rintro e w9 ⟨rfl, hc9, X9, hX9, hG9⟩
  rw [doM_no (by rw [gkD1]; decide)] at hG9
  rw [gkD1]
  have hc79 : Chg (Foot w6.heap.size w7.heap.size (fun _ => False)) w7 w9 := ((Chg.of_below hb8).mono (fun k hk e => absurd hk (by omega))).trans hc9
  have hS9 := hS7.chg hc79 (fun e => by rcases e with e | e <;> omega)
  have hT9 := hT7.chg hc79 (fun e => by rcases e with e | e <;> omega)
  have hbel9 : Below w.heap.size w w9 := hbel7.trans (hc79.below hbel7.size (fun k hk e => by rcases e with e | e <;> omega))
  have hs9 := hc79.size
  clear hG hb8 hB8 hl8 hc9 hc79 hbel7 hS7 hT7 s0 s1 s2 t0 t1 t2 hX9
  have s0 := hS9.cellAt (i := 0) (v := .int .i64 0) rfl
  have s1 := hS9.cellAt (i := 1) (v := .int .i64 0) rfl
  have s2 := hS9.cellAt (i := 2) (v := .int .i64 0) rfl
  have t0 := hT9.cellAt (i := 0) (v := .int .i64 1) rfl
  have t1 := hT9.cellAt (i := 1) (v := .int .i64 0) rfl
  have t2 := hT9.cellAt (i := 2) (v := .int .i64 0) rfl
  dsimp only
  go_wp2_with fail
  have hb10 := below_allocJ w9 (.cells #[.int .i64 0, .int .i64 0, .int .i64 0, .int .i64 (-1), .int .i64 1, .int .i64 0, .int .i64 0, .int .i64 1] 57)
  have hB10 := Blk.new w9 #[.int .i64 0, .int .i64 0, .int .i64 0, .int .i64 (-1), .int .i64 1, .int .i64 0, .int .i64 0, .int .i64 1] 57
  generalize w9.alloc (.cells #[.int .i64 0, .int .i64 0, .int .i64 0, .int .i64 (-1), .int .i64 1, .int .i64 0, .int .i64 0, .int .i64 1] 57) = w10 at hb10 hB10 ⊢
  have hl10 : SlA w10.heap.size 4 (RCount w10.heap.size) w10 (some ⟨w9.heap.size, 0, none⟩) 2 gk2 := by
    refine SlA.of_blk hB10 hB10.lt (by decide) (by unfold maxLen; omega) ?_
    intro i hi
    match i, hi with
    | 0, _ => exact ⟨[.int .i64 0, .int .i64 0, .int .i64 0, .int .i64 (-1)], rfl, fun j hj => (match j, hj with | 0, _ | 1, _ | 2, _ | 3, _ => rfl), rfl, rfl, rfl, rfl, rfl⟩
    | 1, _ => exact ⟨[.int .i64 1, .int .i64 0, .int .i64 0, .int .i64 1], rfl, fun j hj => (match j, hj with | 0, _ | 1, _ | 2, _ | 3, _ => rfl), rfl, rfl, rfl, rfl, rfl⟩
  refine (do_any 0 gk2 _ 2 w10 (hG9.below hb10) hpg hl10 (by decide) (by decide) (by decide) (fun _ a e => by cases e; exact hG9.out (Nat.le_refl _))).mono ?_
  rintro e w11 ⟨rfl, hc11, X11, hX11, hG11⟩
  rw [gkD2]
  have hw9w := hG9.xU
  have hc911 : Chg (Foot w6.heap.size w7.heap.size X9) w9 w11 := ((Chg.of_below hb10).mono (fun k hk e => absurd hk (by omega))).trans hc11
  have hS11 := hS9.chg hc911 (fun e => by rcases e with e | e <;> first | omega | (have := hw9w _ e; omega))
  have hbel11 : Below w.heap.size w w11 := hbel9.trans (hc911.below hbel9.size (fun k hk e => by rcases e with e | e <;> first | omega | (have := hw9w _ e; omega)))
  clear hG9 hb10 hB10 hl10 hc11 hc911 hbel9 hS9 hT9 s0 s1 s2 t0 t1 t2 hX11 hw9w
  have s0 := hS11.cellAt (i := 0) (v := .int .i64 0) rfl
  have s1 := hS11.cellAt (i := 1) (v := .int .i64 0) rfl
  have s2 := hS11.cellAt (i := 2) (v := .int .i64 0) rfl
  dsimp only
  go_wp2_with fail
  refine (wait_any 0 1 hG11).mono ?_
  rintro e w' ⟨rfl, hww⟩
  rw [hww, gkW]
  clear hww w'
  dsimp only
  go_wp2_with fail
  have hdn := gdone_any 1 gks hG11 (by decide)
  rw [gkF, Bool.and_false] at hdn
  refine hdn.mono ?_
  rintro e w12 ⟨rfl, hb12⟩
  have hbel12 := hbel11.trans (hb12.mono hbel11.size)
  dsimp only
  go_wp2_with fail
  go_ret
  exact ⟨rfl, hbel12⟩
end Go.Proofs.Ytjmbafcpbagpdaa
