/- Reach: SameStamps of one list; the chapter's example; ReachCoulds. -/
import Derived.Test.YtbiakolkcikeiaaRe
import Derived.Deep.RegionHeld3
namespace Go.Proofs.Ytbiakolkcikeiaa
open Go.RowKit Go.Shelf
set_option linter.unusedVariables false
set_option linter.unusedSimpArgs false

theorem rsame_tt (l e r : Int) (w : World) :
    Calls Try.prog 31 #[.agg #[.int .i64 l, .int .i64 e, .int .i64 r], .agg #[.int .i64 l, .int .i64 e, .int .i64 r]] w fun x w' => x = .returned (.bool true) ∧ Below w.heap.size w w' := by
  have hs := fun W => same_any e r e r W
  rw [show sameT ⟨e, r⟩ ⟨e, r⟩ = true by simp [sameT]] at hs
  go_enter Try.func31, Try.ntmps31
  go_wp2_with fail
  refine (hs _).mono ?_
  rintro x w3 ⟨rfl, b3⟩
  have hbel : Below w.heap.size w w3 := (by repeat (first | exact Below.refl _ _ | assumption | refine below_drewN ?_ _ | refine Below.drew ?_ | (refine Below.setCell ?_ (by first | omega | (simp; omega) | simp) _) | (refine Below.alloc ?_ (by first | omega | (simp; omega) | simp) _) | (refine Below.trans ?_ (Below.mono (by assumption) (by first | omega | (simp; omega) | simp)))))
  go_wp2_with fail
  go_ret
  exact ⟨rfl, hbel⟩

def ES : World → List Value → TStamp → Prop := fun _ cs x => cs = encS x
theorem imp_es {B : Nat} {w w' : World} {ao : Option Addr} {cap : Nat} {xs : List TStamp} (h : SlA B 3 ES w ao cap xs) (hb : Below B w w') : SlA B 3 ES w' ao cap xs := h.imp hb (Nat.le_refl _) (fun _ _ _ h => h)
theorem es_grow {w w' : World} {ao : Option Addr} {cap : Nat} {xs : List TStamp} (h : SlA w.heap.size 3 ES w ao cap xs) (hb : Below w.heap.size w w') : SlA w'.heap.size 3 ES w' ao cap xs := h.imp hb hb.size (fun _ _ _ h => h)
theorem es_at {B : Nat} {w : World} {b off i cap : Nat} {xs : List TStamp} {x : TStamp} (h : SlA B 3 ES w (some ⟨b, off, none⟩) cap xs) (hi : i < xs.length) (hx : xs[i] = x) :
    w.cell? ⟨b, off + i * 3, none⟩ = some (.int .i64 x.fLoc) ∧ w.cell? ⟨b, off + i * 3 + 1, none⟩ = some (.int .i64 x.fT.fEpoch) ∧ w.cell? ⟨b, off + i * 3 + 2, none⟩ = some (.int .i64 x.fT.fRound) := by
  obtain ⟨cs, _, hc, hr⟩ := h.get i hi
  rw [hx] at hr
  rw [show cs = encS x from hr] at hc
  exact ⟨by have := hc 0 (by omega); simpa [encS] using this, by have := hc 1 (by omega); simpa [encS, Nat.add_assoc] using this, by have := hc 2 (by omega); simpa [encS, Nat.add_assoc] using this⟩

set_option maxHeartbeats 1000000 in
theorem sameStamps_true (l : List TStamp) (ao bo : Option Addr) (c1 c2 : Nat) (w : World) (B : Nat) (hB : B ≤ w.heap.size) (hl : SlA B 3 ES w ao c1 l) (hm : SlA B 3 ES w bo c2 l) :
    Calls Try.prog 13 #[.slice ao l.length c1, .slice bo l.length c2] w fun e w' => e = .returned (.bool true) ∧ Below w.heap.size w w' := by
  have hln := hl.len
  obtain ⟨n, hn⟩ : ∃ n, n = l.length := ⟨_, rfl⟩
  rw [← hn] at hln ⊢
  replace hn := Lib.hid hn
  go_enter Try.func13, Try.ntmps13
  go_wp2_with fail
  go_loopw [5] (fun i wr => ∃ k : Nat, k ≤ n ∧ i = .int .i64 k ∧ Below w.heap.size w wr) (fun i _ => n - (intOf i).toNat)
  case atStart => exact ⟨0, Nat.zero_le _, rfl, Below.refl _ _⟩
  case round =>
    obtain ⟨k, hk, rfl, hbel⟩ := hrel
    by_cases hlt : k < n
    · have hkl : k < l.length := by rw [← hn.out]; exact hlt
      obtain ⟨b1, o1, rfl, hb1, _⟩ := hl.addr (by omega)
      obtain ⟨b2, o2, rfl, hb2, _⟩ := hm.addr (by omega)
      obtain ⟨x, hx⟩ : ∃ x, l[k] = x := ⟨_, rfl⟩
      obtain ⟨e0, e1, e2⟩ := es_at (imp_es hl (hbel.mono hB)) hkl hx
      obtain ⟨g0, g1, g2⟩ := es_at (imp_es hm (hbel.mono hB)) hkl hx
      have hsz := hbel.size
      have q0 := Wd.cell e0 (show b1 < wr.heap.size by omega)
      have q1 := Wd.cell e1 (show b1 < wr.heap.size by omega)
      have q2 := Wd.cell e2 (show b1 < wr.heap.size by omega)
      have q3 := Wd.cell g0 (show b2 < wr.heap.size by omega)
      have q4 := Wd.cell g1 (show b2 < wr.heap.size by omega)
      have q5 := Wd.cell g2 (show b2 < wr.heap.size by omega)
      have hsame := fun W => rsame_tt x.fLoc x.fT.fEpoch x.fT.fRound W
      clear e0 e1 e2 g0 g1 g2 hx hl hm
      go_wp2_with fail
      refine wp_region_below (by kernel_rfl) (by kernel_rfl) ?_
      repeat (go_big_quiet_step ((go_at_call 31; exact Calls.quiet_below (hsame _))))
      refine wpQuiet_nil ?_
      rintro _ ⟨u, rfl⟩
      have hbu := hbel.trans (u.h.mono hsz)
      go_wp2_with fail
      go_roundw
      case rel => exact ⟨k + 1, by omega, by go_num, hbu⟩
      case measure => simp [intOf]; omega
    · obtain rfl : k = n := by omega
      go_wp2_with fail
      go_ret
      exact ⟨rfl, hbel⟩

def kops : List TOp := [⟨1, [], 0, 0, 0, 0, 0⟩, ⟨7, [0], 0, 0, 3, 0, 0⟩, ⟨8, [1], 0, 0, 0, 0, 0⟩]
def kcells (b0 b1 : Nat) : Array Value := #[.int .i64 1, .slice none 0 0, .int .i64 0, .int .u32 0, .int .i64 0, .int .i64 0, .int .u32 0, .int .i64 7, .slice (some ⟨b0, 0, none⟩) 1 1, .int .i64 0, .int .u32 0, .int .i64 3, .int .i64 0, .int .u32 0,
      .int .i64 8, .slice (some ⟨b1, 0, none⟩) 1 1, .int .i64 0, .int .u32 0, .int .i64 0, .int .i64 0, .int .u32 0]
theorem kops_read {W : World} {B b0 b1 b2 : Nat} (h0 : Blk W b0 #[.int .i64 0] 3) (h1 : Blk W b1 #[.int .i64 1] 3) (h2 : Blk W b2 (kcells b0 b1) 50) (hb0 : b0 < B) (hb1 : b1 < B) (hb2 : b2 < B) :
    SlA B 7 (ROp B) W (some ⟨b2, 0, none⟩) 3 kops := by
  have m1 : (1 : Nat) ≤ maxLen := by unfold maxLen; omega
  unfold kcells at h2
  refine SlA.of_blk h2 hb2 (by decide) (by unfold maxLen; omega) ?_
  intro i hi
  match i, hi with
  | 0, _ => exact ⟨[.int .i64 1, .slice none 0 0, .int .i64 0, .int .u32 0, .int .i64 0, .int .i64 0, .int .u32 0], rfl, fun j hj => (match j, hj with | 0, _ | 1, _ | 2, _ | 3, _ | 4, _ | 5, _ | 6, _ => rfl), none, 0, rfl, rfl, SlA.nil _ _ _ _, rfl, rfl, rfl, rfl, rfl⟩
  | 1, _ => exact ⟨[.int .i64 7, .slice (some ⟨b0, 0, none⟩) 1 1, .int .i64 0, .int .u32 0, .int .i64 3, .int .i64 0, .int .u32 0], rfl, fun j hj => (match j, hj with | 0, _ | 1, _ | 2, _ | 3, _ | 4, _ | 5, _ | 6, _ => rfl), _, 1, rfl, rfl,
      SlA.of_blk1 h0 hb0 (Nat.le_refl 1) m1 (fun i hi => match i, hi with | 0, _ => ⟨rfl, rfl⟩), rfl, rfl, rfl, rfl, rfl⟩
  | 2, _ => exact ⟨[.int .i64 8, .slice (some ⟨b1, 0, none⟩) 1 1, .int .i64 0, .int .u32 0, .int .i64 0, .int .i64 0, .int .u32 0], rfl, fun j hj => (match j, hj with | 0, _ | 1, _ | 2, _ | 3, _ | 4, _ | 5, _ | 6, _ => rfl), _, 1, rfl, rfl,
      SlA.of_blk1 h1 hb1 (Nat.le_refl 1) m1 (fun i hi => match i, hi with | 0, _ => ⟨rfl, rfl⟩), rfl, rfl, rfl, rfl, rfl⟩
theorem kops_ok : (gcheck kops).2 = 0 := by decide
theorem kcould : couldS kops 1 4 0 2 4 0 = true := by
  have h1 : goodS kops 1 4 0 = true := by decide
  have h2 : goodS kops 2 4 0 = true := by decide
  have h3 : rch kops 1 2 = true := rch_iff.2 (.step ⟨⟨8, [1], 0, 0, 0, 0, 0⟩, rfl, by simp⟩ (.refl _))
  unfold couldS wayS
  rw [decide_eq_true kops_ok, h1, h2, if_neg (by decide)]
  rw [show Int.toNat 1 = 1 from rfl, show Int.toNat 2 = 2 from rfl, h3]
  rfl
theorem knext : nextS kops 1 4 0 = [⟨1, ⟨4, 1⟩⟩, ⟨2, ⟨4, 0⟩⟩] := by
  unfold nextS
  rw [if_pos (by decide)]
  rfl

/-- The example's variables. -/
structure KSt (w wr : World) (N : Nat) : Prop where
  bel : Below w.heap.size w wr
  b0 : Blk wr N #[.int .i64 0] 3
  b1 : Blk wr (N + 1) #[.int .i64 1] 3
  b2 : Blk wr (N + 1 + 1) (kcells N (N + 1)) 50
  g : Blk wr (N + 1 + 1 + 1) #[.slice (some ⟨N + 1 + 1, 0, none⟩) 3 3] 24
  s : Blk wr (N + 1 + 1 + 1 + 1) #[.int .i64 1, .int .i64 4, .int .i64 0] 28
theorem KSt.below {w wr wr' : World} {N : Nat} (h : KSt w wr N) (k : Below wr.heap.size wr wr') : KSt w wr' N :=
  ⟨h.bel.trans (k.mono h.bel.size), h.b0.below k h.b0.lt, h.b1.below k h.b1.lt, h.b2.below k h.b2.lt, h.g.below k h.g.lt, h.s.below k h.s.lt⟩
theorem KSt.read {w wr : World} {N : Nat} (h : KSt w wr N) : SlA wr.heap.size 7 (ROp wr.heap.size) wr (some ⟨N + 1 + 1, 0, none⟩) 3 kops := kops_read h.b0 h.b1 h.b2 h.b0.lt h.b1.lt h.b2.lt
theorem blk_at {w : World} {cs : Array Value} {T : TypeId} {N : Nat} (h : w.heap.size = N) : Blk (w.alloc (.cells cs T)) N cs T := h ▸ Blk.new w cs T
theorem KSt.new (w : World) (N : Nat) (hN : N = w.heap.size) : KSt w (((((w.alloc (.cells #[.int .i64 0] 3)).alloc (.cells #[.int .i64 1] 3)).alloc (.cells (kcells N (N + 1)) 50)).alloc (.cells #[.slice (some ⟨N + 1 + 1, 0, none⟩) 3 3] 24)).alloc (.cells #[.int .i64 1, .int .i64 4, .int .i64 0] 28)) N := by
  subst hN
  generalize hK : kcells w.heap.size (w.heap.size + 1) = K
  refine ⟨(((((Below.refl _ w).alloc (Nat.le_refl _) _).alloc (by simp) _).alloc (by simp; omega) _).alloc (by simp; omega) _).alloc (by simp; omega) _, ((((Blk.new _ _ _).alloc _).alloc _).alloc _).alloc _, (((blk_at (by simp)).alloc _).alloc _).alloc _, ?_, (blk_at (by simp)).alloc _, blk_at (by simp)⟩
  rw [hK]
  exact ((blk_at (by simp)).alloc _).alloc _

set_option maxRecDepth 100000 in
set_option maxHeartbeats 2000000 in
theorem known_any (w : World) : Calls Try.prog 8 #[] w fun e w' => e = .returned (.bool true) ∧ Below w.heap.size w w' := by
  obtain ⟨N, hN⟩ : ∃ N, N = w.heap.size := ⟨_, rfl⟩
  have hK0 := KSt.new w N hN
  unfold kcells at hK0
  go_enter Try.func8, Try.ntmps8
  go_upto_region 3 with fail
  rw [← hN]
  replace hN := Lib.hid hN
  generalize hW : ((((w.alloc (.cells #[.int .i64 0] 3)).alloc (.cells #[.int .i64 1] 3)).alloc _).alloc _).alloc _ = w1 at hK0 ⊢
  clear hW
  have c0 := hK0.g.cellAt (i := 0) (v := .slice (some ⟨N + 1 + 1, 0, none⟩) 3 3) rfl
  have s0 := hK0.s.cellAt (i := 0) (v := .int .i64 1) rfl
  have s1 := hK0.s.cellAt (i := 1) (v := .int .i64 4) rfl
  have s2 := hK0.s.cellAt (i := 2) (v := .int .i64 0) rfl
  have hcd := could_any kops 3 (some ⟨N + 1 + 1, 0, none⟩) 1 4 0 2 4 0 w1.heap.size w1 (Nat.le_refl _) hK0.read
  rw [kcould] at hcd
  go_wp2_with fail
  refine hcd.mono ?_
  rintro e w2 ⟨rfl, b2⟩
  have hK := hK0.below b2
  clear hcd c0 s0 s1 s2 hK0 b2
  have c0 := hK.g.cellAt (i := 0) (v := .slice (some ⟨N + 1 + 1, 0, none⟩) 3 3) rfl
  have s0 := hK.s.cellAt (i := 0) (v := .int .i64 1) rfl
  have s1 := hK.s.cellAt (i := 1) (v := .int .i64 4) rfl
  have s2 := hK.s.cellAt (i := 2) (v := .int .i64 0) rfl
  have hnx := next_any kops 3 (some ⟨N + 1 + 1, 0, none⟩) 1 4 0 w2.heap.size w2 (Nat.le_refl _) hK.read
  rw [knext] at hnx
  dsimp only
  go_wp2_with fail
  refine hnx.mono ?_
  rintro e w3 ⟨b3, v, rfl, hown⟩
  have hK3 := hK.below b3
  obtain ⟨av, cv, rfl, hsv⟩ := hown.sla encS_len (E := ES) (fun _ _ => rfl)
  clear hnx c0 s0 s1 s2 hK b3 hown
  dsimp only
  go_upto_region 100 with (go_at_call 13; refine Shut.out ?stopk)
  case stopk =>
    unfold Shut
    have hz : (w3.alloc (.cells #[.int .i64 1, .int .i64 4, .int .i64 1, .int .i64 2, .int .i64 4, .int .i64 0] 28)).heap.size = w3.heap.size + 1 := by simp
    have hb4 : Below w3.heap.size w3 (w3.alloc (.cells #[.int .i64 1, .int .i64 4, .int .i64 1, .int .i64 2, .int .i64 4, .int .i64 0] 28)) := (Below.refl _ _).alloc (Nat.le_refl _) _
    have hm : SlA (w3.heap.size + 1) 3 ES (w3.alloc (.cells #[.int .i64 1, .int .i64 4, .int .i64 1, .int .i64 2, .int .i64 4, .int .i64 0] 28)) (some ⟨w3.heap.size, 0, none⟩) 2 [⟨1, ⟨4, 1⟩⟩, ⟨2, ⟨4, 0⟩⟩] := by
      refine SlA.of_blk (Blk.new w3 _ _) (by omega) (by decide) (by unfold maxLen; omega) ?_
      intro i hi
      match i, hi with
      | 0, _ => exact ⟨_, encS_len _, fun j hj => (match j, hj with | 0, _ | 1, _ | 2, _ => rfl), rfl⟩
      | 1, _ => exact ⟨_, encS_len _, fun j hj => (match j, hj with | 0, _ | 1, _ | 2, _ => rfl), rfl⟩
    refine (sameStamps_true [⟨1, ⟨4, 1⟩⟩, ⟨2, ⟨4, 0⟩⟩] av (some ⟨w3.heap.size, 0, none⟩) cv 2 _ (w3.heap.size + 1) (by rw [hz]; exact Nat.le_refl _) (hsv.imp hb4 (Nat.le_succ _) (fun _ _ _ h => h)) hm).mono ?_
    rintro e w5 ⟨rfl, b5⟩
    have hbf : Below w.heap.size w w5 := hK3.bel.trans ((hb4.mono hK3.bel.size).trans (b5.mono (by rw [hz]; have := hK3.bel.size; omega)))
    clear hm hb4 hz hsv hK3 b5
    dsimp only
    go_wp2_with fail
    go_ret
    exact ⟨rfl, hbf⟩

/-- A stamp's value. -/
theorem stamp_agg {w : World} {B : Nat} {cs : Array Value} {x : TStamp} (h : RStamp B w (Value.cells (.agg cs)).toList x) : cs = #[.int .i64 x.fLoc, .int .i64 x.fT.fEpoch, .int .i64 x.fT.fRound] ∧ (Lit.int .i64 x.fLoc).wf = true ∧ (Lit.int .i64 x.fT.fEpoch).wf = true ∧ (Lit.int .i64 x.fT.fRound).wf = true := by
  obtain ⟨h1, h2, h3, h4⟩ := h
  exact ⟨by cases cs; simpa [Value.cells] using h1, h2, h3, h4⟩

def CBS (w : World) (ao : Option Addr) (n cap : Nat) (la ea ra lb eb rb : Int) (wx : World) : Prop := wx.cell? ⟨w.heap.size, 0, none⟩ = some (.slice ao n cap) ∧
    wx.cell? ⟨w.heap.size + 1, 0, none⟩ = some (.int .i64 la) ∧ wx.cell? ⟨w.heap.size + 1, 1, none⟩ = some (.int .i64 ea) ∧ wx.cell? ⟨w.heap.size + 1, 2, none⟩ = some (.int .i64 ra) ∧
    wx.cell? ⟨w.heap.size + 1 + 1, 0, none⟩ = some (.int .i64 lb) ∧ wx.cell? ⟨w.heap.size + 1 + 1, 1, none⟩ = some (.int .i64 eb) ∧ wx.cell? ⟨w.heap.size + 1 + 1, 2, none⟩ = some (.int .i64 rb)
set_option maxRecDepth 100000 in
set_option maxHeartbeats 4000000 in
theorem coulds_walk (ops : List TOp) (cap : Nat) (ao : Option Addr) (la ea ra lb eb rb : Int) (w : World) (hx : SlA w.heap.size 7 (ROp w.heap.size) w ao cap ops) :
    Calls Try.prog 3 #[.agg #[.slice ao ops.length cap], .agg #[.int .i64 la, .int .i64 ea, .int .i64 ra], .agg #[.int .i64 lb, .int .i64 eb, .int .i64 rb]] w fun x w' => x = .returned (.bool true) ∧ Below w.heap.size w w' := by
  have h1 := fun W hb => Good_any ops cap ao la ea ra w.heap.size W (Below.size hb) (imp_ops hx hb)
  have h2 := fun W hb => rGood_any ops cap ao la ea ra w.heap.size W (Below.size hb) (imp_ops hx hb)
  have h3 := fun W hb => could_any ops cap ao la ea ra lb eb rb w.heap.size W (Below.size hb) (imp_ops hx hb)
  have h4 := fun W hb => rcould_any ops cap ao la ea ra lb eb rb w.heap.size W (Below.size hb) (imp_ops hx hb)
  have h5 := fun W hb => next_any ops cap ao la ea ra w.heap.size W (Below.size hb) (imp_ops hx hb)
  have h6 := fun W hb => rnext_any ops cap ao la ea ra w.heap.size W (Below.size hb) (imp_ops hx hb)
  generalize (decide ((gcheck ops).2 = 0) && goodS ops la ea ra) = gv at h1 h2
  generalize couldS ops la ea ra lb eb rb = cv at h3 h4
  generalize nextS ops la ea ra = nx at h5 h6
  generalize ops.length = n at h1 h2 h3 h4 h5 h6 ⊢
  have hg1 : (gv == gv) = true := by simp
  have hg2 : (cv == cv) = true := by simp
  replace h1 := Lib.hid h1
  replace h2 := Lib.hid h2
  replace h3 := Lib.hid h3
  replace h4 := Lib.hid h4
  replace h5 := Lib.hid h5
  replace h6 := Lib.hid h6
  go_enter Try.func3, Try.ntmps3
  go_wp2_with fail
  have hC : CB w _ ao n cap la ea ra lb eb rb := CB.new
  generalize ((w.alloc (.cells #[.slice ao n cap] 24)).alloc (.cells #[.int .i64 la, .int .i64 ea, .int .i64 ra] 28)).alloc (.cells #[.int .i64 lb, .int .i64 eb, .int .i64 rb] 28) = w1 at hC ⊢
  obtain ⟨c0, c1, c2, c3, c4, c5, c6, cl⟩ := hC.facts
  go_region_held3 (fun wx => wx.cell? ⟨w.heap.size, 0, none⟩ = some (.slice ao n cap) ∧
    wx.cell? ⟨w.heap.size + 1, 0, none⟩ = some (.int .i64 la) ∧ wx.cell? ⟨w.heap.size + 1, 1, none⟩ = some (.int .i64 ea) ∧ wx.cell? ⟨w.heap.size + 1, 2, none⟩ = some (.int .i64 ra) ∧
    wx.cell? ⟨w.heap.size + 1 + 1, 0, none⟩ = some (.int .i64 lb) ∧ wx.cell? ⟨w.heap.size + 1 + 1, 1, none⟩ = some (.int .i64 eb) ∧ wx.cell? ⟨w.heap.size + 1 + 1, 2, none⟩ = some (.int .i64 rb))
    (first | exact ⟨hC.facts.1, hC.facts.2.1, hC.facts.2.2.1, hC.facts.2.2.2.1, hC.facts.2.2.2.2.1, hC.facts.2.2.2.2.2.1, hC.facts.2.2.2.2.2.2.1⟩)
    (first
      | (go_at_call 8; refine (known_any _).mono ?_; rintro e w2 ⟨rfl, b2⟩; have hC := hC.below (((Below.refl _ _).drew).trans b2))
      | (go_at_call 9; refine (h1.out _ hC.bel).mono ?_; rintro e w2 ⟨rfl, b2⟩; have hC := hC.below b2)
      | (go_at_call 10; refine (h2.out _ hC.bel).mono ?_; rintro e w2 ⟨rfl, b2⟩; have hC := hC.below b2)
      | (go_at_call 11; refine (h3.out _ hC.bel).mono ?_; rintro e w2 ⟨rfl, b2⟩; have hC := hC.below b2)
      | (go_at_call 12; refine (h4.out _ hC.bel).mono ?_; rintro e w2 ⟨rfl, b2⟩; have hC := hC.below b2)
      | (go_at_call 14; refine (h5.out _ hC.bel).mono ?_; rintro e w2 ⟨b2, v1, rfl, hown1⟩; have hC := hC.below b2; obtain ⟨a1, cp1, rfl, hs1⟩ := hown1.sla encS_len (E := ES) (fun _ _ => rfl); clear hown1)
      | (go_at_call 15; refine (h6.out _ hC.bel).mono ?_; rintro e w3 ⟨b3, v2, rfl, hown2⟩; have hC := hC.below b3; obtain ⟨a2, cp2, rfl, hs2⟩ := hown2.sla encS_len (E := ES) (fun _ _ => rfl); have hs1 := es_grow hs1 b3; clear hown2)
      | (go_at_call 13; refine (sameStamps_true nx a1 a2 cp1 cp2 _ _ (Nat.le_refl _) hs1 hs2).mono ?_; rintro e w2 ⟨rfl, b2⟩; have hC := hC.below b2))
  go_wp2_with fail
  go_ret
  exact ⟨by simp, hC.bel⟩

theorem coulds_row {w : World} (cs : Array Value) (x : TGraph) (hx : RGraph w.heap.size w (Value.cells (.agg cs)).toList x) (c1 : Array Value) (x1 : TStamp) (h1 : RStamp w.heap.size w (Value.cells (.agg c1)).toList x1) (c2 : Array Value) (x2 : TStamp) (h2 : RStamp w.heap.size w (Value.cells (.agg c2)).toList x2) :
    Calls Try.prog 3 #[.agg cs, .agg c1, .agg c2] w fun e w' => e = .returned (.bool true) ∧ Below w.heap.size w w' := by
  obtain ⟨ao, cap, rfl, hs⟩ := graph_agg hx
  obtain ⟨rfl, _⟩ := stamp_agg h1
  obtain ⟨rfl, _⟩ := stamp_agg h2
  exact coulds_walk x.fOps cap ao _ _ _ _ _ _ w hs
end Go.Proofs.Ytbiakolkcikeiaa
