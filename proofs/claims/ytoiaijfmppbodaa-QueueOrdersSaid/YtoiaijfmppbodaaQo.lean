/- Queue: the walk of QueueOrders. -/
import Derived.RangeFuncNested
import Derived.RangeFuncBound
import Derived.RangeFuncCalls
import Derived.RangeFuncLeaves
import Derived.RangeFuncFrom
import Derived.Shelf.Abstract
import Derived.Shelf.RegionOpen
import Derived.WalkKit
import Derived.OwnWalkIn
import Derived.TacticsInMore
import Derived.LoopNIn
import Derived.LoopIn
import Derived.Test.YtoiaijfmppbodaaQb
import Derived.Test.YtoiaijfmppbodaaBaseD
import Derived.Lib.Hide
namespace Go.Proofs.Ytoiaijfmppbodaa
open Go.RowKit Go.Shelf
attribute [local go_sem] Oper.semAt_some
set_option linter.unusedVariables false

theorem all_nil (w : World) : Calls Try.prog 21 #[.pointer none] w fun e w' => e = .returned (.func (.func 26) #[] #[.pointer (some ⟨w.heap.size, 0, none⟩)]) ∧ w' = w.alloc (.cells #[.pointer none] 24) := by
  go_enter Try.func21, Try.ntmps21
  go_wp2
  go_ret
  exact ⟨rfl, rfl⟩

set_option maxRecDepth 100000 in
theorem all1_nil (F : Fence) (n : Nat) (h26 : F.fn 26) (hro : F.round = none) (l Bq : Nat) (W : World) (hB : W.cell? ⟨Bq, 0, none⟩ = some (.pointer none)) :
    CallsIn F n Try.prog 26 #[.func (.yield l) #[] #[], .pointer (some ⟨Bq, 0, none⟩)] W fun e W' => (∃ v, e = .returned v) ∧ ∃ o, W' = W.alloc o := by
  have hlt : Bq < W.heap.size := World.lt_of_cell hB
  refine callsIn_of_wp Try.func26 rfl h26 ?_ hro
  simp only [Try.ntmps26, List.size_toArray, List.length_cons, List.length_nil, Nat.reduceAdd, Nat.reduceSub, Array.replicate_succ, Array.replicate_zero, List.push_toArray, List.append_toArray, List.nil_append, List.cons_append]
  gi_wp2
  refine bodyPost_ret (results_none rfl _ _ _) rfl ?_
  exact ⟨⟨_, rfl⟩, _, rfl⟩

theorem all_stops (F : Fence) (n : Nat) (h26 : F.fn 26) (hro : F.round = none) (Bq : Nat) (w : World) (hBl : Bq < w.heap.size) (hB : w.cell? ⟨Bq, 0, none⟩ = some (.pointer none)) :
    SeqStopsK F n Try.prog 26 #[.pointer (some ⟨Bq, 0, none⟩)] (fun x : Int × ByteArray => #[Value.int .i64 x.1, Value.string x.2]) (fun _ _ => True)
      (fun ys => ys = []) (fun _ => False) 0 w := fun l J Jx W hW hJ _ hY h0 =>
  (all1_nil F n h26 hro l Bq W ((hW.cell (p := ⟨Bq, 0, none⟩) hBl).trans hB)).mono fun e W' ⟨he, o, hj⟩ => ⟨he, .inl ⟨[], rfl, by rw [hj]; exact hJ _ _ _ none h0 (World.grownBy_alloc W _ none) (by simp)⟩⟩

/-- A range over a function that runs no round. -/
theorem range_none {P : Program} {α : Type} {F : Fence} {n : Nat} {g : Operand} {ps : Array Tmp} {assign body : Code} {Q : Exit → Act → World → Prop} {a : Act} {w : World}
    (hro : F.round = none) (h1 : 1 ≤ n) {gf : Nat} {lb : Array Value} (hg : a.eval g = .func (.func gf) #[] lb) (hFg : F.fn gf) (eg : ∀ args w, (callFunc gf args).run P w = .ok (.enter gf args) w)
    {encs : α → Array Value} {w0 : World} (hseq : SeqStopsK F (n - 1) P gf lb encs (fun _ _ => True) (fun ys => ys = []) (fun _ => False) 0 w0) (hb0 : Below w0.heap.size w0 w) (hps : ∀ x, (encs x).size = ps.size)
    (hsk : ∀ l act W (K : Act → World → Prop), K act W → assign.wpIn (F.inRound l) (n - 1 - 1) P (Exit.then K (fun _ _ _ => False)) act W)
    (I : World → Prop) (hI : OwnFrom w.heap.size (fun (_ : List α) W => I W)) (h0 : I w)
    (hdone : ∀ (D : Nat) (W : World), w.heap.size ≤ D → I W → W.heap[D]? = some (.deferred (some [])) → Q .normal { a with defers := { target := .collected D, args := #[] } :: a.defers } W) :
    (Code.rangeFunc g ps assign body).wpIn F n P Q a w :=
  wpIn_rangeFunc_ownF (α := α) (encs := encs) hro h1 hg hFg eg hseq (fun _ _ => trivial) (fun _ _ _ _ _ _ _ _ => trivial) hb0 hps (fun _ W => I W) (fun _ _ _ => False) hI (fun _ _ _ _ _ hs _ _ => hs) h0
    (fun x => { tmps := (ps.zip (encs x)).foldl (fun t (p, v) => t.setIfInBounds p v) a.tmps, defers := [] })
    (fun l x W K hK => hsk l _ W K hK) (fun l pre x W _ hlt => absurd hlt (Nat.not_lt_zero _)) (fun D xs W h1 _ h3 h4 => hdone D W h1 h3 h4) (fun D c pre W _ hs => hs.elim)

def namesFT (t p : Nat) : List Value := (names p).drop t
theorem namesFT_len (t p : Nat) : (namesFT t p).length = p - t := by simp [namesFT, names_length]
theorem namesFT_put {t p : Nat} (h : t ≤ p) : namesFT t (p + 1) = namesFT t p ++ [.string (nm p)] := by
  unfold namesFT
  rw [names_succ, List.drop_append_of_le_length (by rw [names_length]; exact h)]
theorem namesFT_take {t p : Nat} (h : t < p) : namesFT t p = .string (nm t) :: namesFT (t + 1) p := names_drop p t h
theorem namesFT_same (t : Nat) : namesFT t t = [] := by
  unfold namesFT
  exact List.drop_of_length_le (by rw [names_length]; exact Nat.le_refl _)

set_option maxRecDepth 100000 in
set_option maxHeartbeats 4000000 in
theorem orders_walk (a0 : Int) (ao : Option Addr) (cap : Nat) (xs : List Bool) (w : World) (h : SlA w.heap.size 1 RB w ao cap xs) :
    Calls Try.prog 5 #[.int .i64 a0, .slice ao xs.length cap] w fun e w' => e = .returned (.bool true) ∧ Below w.heap.size w w' := by
  have hlen := h.len
  obtain ⟨n, hn⟩ : ∃ n, n = xs.length := ⟨_, rfl⟩
  rw [← hn] at hlen ⊢
  replace hn := Lib.hid hn
  refine (callsIn_wide (n := 8)).1 ?_
  refine callsIn_of_wp_marks Try.func5 rfl trivial ?_ rfl
  simp only [Try.ntmps5, List.size_toArray, List.length_cons, List.length_nil, Nat.reduceAdd, Nat.reduceSub, Array.replicate_succ, Array.replicate_zero, List.push_toArray, List.append_toArray, List.nil_append, List.cons_append]
  refine wpIn_wide.2 ?_
  go_wp2_with fail
  refine (known_any w).mono ?_
  rintro e w1 ⟨rfl, hb1⟩
  obtain ⟨c, hc1, hc2, hc⟩ : ∃ c : Nat, 1 ≤ c ∧ c ≤ 64 ∧ wrap64 (1 + wrap64 ((IntKind.u64.wrap a0).tmod 64)) = c := credit_of a0
  go_wp2_with fail
  refine (Qstring.new_ok c _ hc1 hc2).mono ?_
  rintro e w2 ⟨b, rb, rfl, hq2, hb, hrb, g2⟩
  have hb2 := hb1.trans (g2.below (B := w.heap.size) hb1.size (by simp))
  have hbw : w.heap.size ≤ b := Nat.le_trans hb1.size hb
  have hrw : w.heap.size ≤ rb := Nat.le_trans hb1.size hrb
  clear hb1 g2 hb hrb
  rw [show ([] : List Value) = namesFT 0 0 from rfl] at hq2
  obtain ⟨tq, te, hq2⟩ : ∃ tq te, QL w2 tq te b rb c (namesFT 0 0) := ⟨_, _, hq2⟩
  go_wp2_with fail
  go_loopw [7, 8, 9] (fun x7 x8 x9 wr => ∃ (p t i : Nat), x7 = .int .i64 p ∧ x8 = .int .i64 t ∧ x9 = .int .i64 i ∧ t ≤ p ∧ p ≤ t + c ∧ p ≤ i ∧ i ≤ n ∧ i ≤ 300 ∧ QL wr tq te b rb c (namesFT t p) ∧ Below w.heap.size w wr) (fun _ _ x9 _ => n - (intOf x9).toNat)
  case atStart => exact ⟨0, 0, 0, rfl, rfl, rfl, by omega, by omega, by omega, by omega, by omega, hq2, hb2⟩
  case round =>
    clear hq2 hb2
    obtain ⟨p, t, i, rfl, rfl, rfl, htp, hpc, hpi, hin, hi3, hq, hbel⟩ := hrel
    have hsz := hbel.size
    have hlen1 : ∀ p t : Nat, t ≤ p → (((namesFT t p).length : Nat) : Int) = (p : Int) - t := fun p t h => by rw [namesFT_len]; omega
    by_cases hlt : i < n ∧ i < 300
    · have hd1 : decide ((i : Int) < (n : Int)) = true := by simp; omega
      have hd2 : decide ((i : Int) < 300) = true := by simp; omega
      have hil : i < xs.length := by rw [← hn.out]; exact hlt.1
      obtain ⟨b1, o1, rfl, hb1, _⟩ := h.addr (by omega)
      obtain ⟨st, hst⟩ : ∃ s, xs[i] = s := ⟨_, rfl⟩
      have e0 : wr.cell? ⟨b1, o1 + i, none⟩ = some (.bool st) := by
        obtain ⟨cs, _, hc, hr⟩ := h.get i hil
        rw [hbel.cell (p := ⟨b1, o1 + i, none⟩) hb1]
        have := hc 0 (by omega)
        rw [hst] at hr
        rw [show cs = [.bool st] from hr] at this
        simpa using this
      clear hst
      have hin2 : i < n := hlt.1
      cases st with
      | true =>
        go_wp2_with fail
        refine (name_any p _ (by omega)).mono ?_
        rintro e w4 ⟨rfl, g4⟩
        have hq4 := hq.chg g4 (fun h => h) (fun h => h)
        have hb4 := hbel.trans (g4.below (B := w.heap.size) hsz (fun _ _ h => h))
        dsimp only
        clear hq g4 e0
        by_cases hroom : p - t < c
        · have hd3 : decide ((p : Int) - (t : Int) < (c : Int)) = true := by simp; omega
          go_wp2_with fail
          refine (Qstring.put_room _ tq te b rb c _ (nm p) hq4 (by rw [namesFT_len]; exact hroom)).mono ?_
          rintro e w5 ⟨rfl, hq5, g5⟩
          rw [← namesFT_put htp] at hq5
          have hb5 := hb4.trans (q_below (B := w.heap.size) g5 hb4.size hbw hrw)
          dsimp only
          have hl5 := Qstring.len_ql w5 tq te b rb c _ hq5
          rw [hlen1 (p + 1) t (by omega)] at hl5
          clear hq4 g5 hlen1
          go_wp2_with fail
          refine hl5.mono ?_
          rintro e w6 ⟨rfl, rfl⟩
          dsimp only
          go_wp2_with fail
          refine hl5.mono ?_
          rintro e w6 ⟨rfl, rfl⟩
          dsimp only
          have hd4 : decide ((c : Int) < (p : Int) + 1 - (t : Int)) = false := by simp; omega
          go_wp2_with fail
          go_roundw
          case rel => exact ⟨p + 1, t, i + 1, rfl, rfl, rfl, by omega, by omega, by omega, by omega, by omega, hq5, hb5⟩
          case measure => simp [intOf]; omega
        · have hd3 : decide ((p : Int) - (t : Int) < (c : Int)) = false := by simp; omega
          go_wp2_with fail
          refine (Qstring.put_full _ tq te b rb c _ (nm p) hq4 (by rw [namesFT_len]; omega)).mono ?_
          rintro e w5 ⟨rfl, hq5, g5⟩
          have hb5 := hb4.trans (q_below (B := w.heap.size) g5 hb4.size hbw hrw)
          dsimp only
          have hl5 := Qstring.len_ql w5 tq te b rb c _ hq5
          rw [hlen1 p t (by omega)] at hl5
          clear hq4 g5 hlen1
          go_wp2_with fail
          refine hl5.mono ?_
          rintro e w6 ⟨rfl, rfl⟩
          dsimp only
          go_wp2_with fail
          refine hl5.mono ?_
          rintro e w6 ⟨rfl, rfl⟩
          dsimp only
          have hd4 : decide ((c : Int) < (p : Int) - (t : Int)) = false := by simp; omega
          go_wp2_with fail
          go_roundw
          case rel => exact ⟨p, t, i + 1, rfl, rfl, rfl, by omega, by omega, by omega, by omega, by omega, hq5, hb5⟩
          case measure => simp [intOf]; omega
      | false =>
        by_cases hsome : t < p
        · have hd3 : decide ((t : Int) < (p : Int)) = true := by simp; omega
          rw [namesFT_take hsome] at hq
          go_wp2_with fail
          refine (Qstring.take_some _ tq te b rb c (nm t) _ hq).mono ?_
          rintro e w5 ⟨rfl, hq5, g5⟩
          have hb5 := hbel.trans (q_below (B := w.heap.size) g5 hsz hbw hrw)
          dsimp only
          have hl5 := Qstring.len_ql w5 tq te b rb c _ hq5
          rw [hlen1 p (t + 1) (by omega)] at hl5
          clear hq g5 hlen1
          go_wp2_with fail
          refine (name_any t _ (by omega)).mono ?_
          rintro e w6 ⟨rfl, g6⟩
          have hq6 := hq5.chg g6 (fun h => h) (fun h => h)
          have hb6 := hb5.trans (g6.below (B := w.heap.size) hb5.size (fun _ _ h => h))
          have hl6 := Qstring.len_ql w6 tq te b rb c _ hq6
          rw [show (((namesFT (t + 1) p).length : Nat) : Int) = (p : Int) - (t + 1) by rw [namesFT_len]; omega] at hl6
          dsimp only
          clear hl5 hq5 hb5 g6
          have hnn : ((nm t).toList == (nm t).toList) = true := by simp
          go_wp2_with fail
          refine hl6.mono ?_
          rintro e w7 ⟨rfl, rfl⟩
          dsimp only
          have hd5 : ((p : Int) - ((t : Int) + 1) != (p : Int) - ((t : Int) + 1)) = false := by simp
          go_wp2_with fail
          refine hl6.mono ?_
          rintro e w7 ⟨rfl, rfl⟩
          dsimp only
          have hd4 : decide ((c : Int) < (p : Int) - ((t : Int) + 1)) = false := by simp; omega
          go_wp2_with fail
          go_roundw
          case rel => exact ⟨p, t + 1, i + 1, rfl, rfl, rfl, by omega, by omega, by omega, by omega, by omega, hq6, hb6⟩
          case measure => simp [intOf]; omega
        · obtain rfl : t = p := by omega
          have hd3 : decide ((t : Int) < (t : Int)) = false := by simp
          rw [namesFT_same] at hq
          have hl5 := Qstring.len_ql wr tq te b rb c _ hq
          go_wp2_with fail
          refine (Qstring.take_none _ tq te b rb c hq).mono ?_
          rintro e w5 ⟨rfl, rfl⟩
          dsimp only
          rw [List.length_nil] at hl5
          go_wp2_with fail
          refine hl5.mono ?_
          rintro e w6 ⟨rfl, rfl⟩
          dsimp only
          have hd5 : ((0 : Int) != (t : Int) - (t : Int)) = false := by simp
          go_wp2_with fail
          refine hl5.mono ?_
          rintro e w6 ⟨rfl, rfl⟩
          dsimp only
          have hd4 : decide ((c : Int) < 0) = false := by simp
          go_wp2_with fail
          go_roundw
          case rel => exact ⟨t, t, i + 1, rfl, rfl, rfl, by omega, by omega, by omega, by omega, by omega, by rw [namesFT_same]; exact hq, hbel⟩
          case measure => simp [intOf]; omega
    · have hgo : (¬ i < n) ∨ (i < n ∧ ¬ i < 300) := by omega
      clear hlen1 hq hlt
      rcases hgo with h1 | ⟨h1, h2⟩
      · have hd1 : decide ((i : Int) < (n : Int)) = false := by simp; omega
        go_wp2_with fail
        refine (all_nil _).mono ?_
        rintro e w3 ⟨rfl, rfl⟩
        dsimp only
        have hsw : ((wr.alloc (.cells #[.int .i64 0] 3)).alloc (.cells #[.pointer none] 24)).heap.size = wr.heap.size + 1 + 1 := by simp
        have hbX : Below w.heap.size w ((wr.alloc (.cells #[.int .i64 0] 3)).alloc (.cells #[.pointer none] 24)) := (hbel.alloc hsz _).alloc (by simp; omega) _
        have hcX : ((wr.alloc (.cells #[.int .i64 0] 3)).alloc (.cells #[.pointer none] 24)).cell? ⟨wr.heap.size, 0, none⟩ = some (.int .i64 0) := ((Blk.new wr #[.int .i64 0] 3).alloc _).cellAt rfl
        have hqX : ((wr.alloc (.cells #[.int .i64 0] 3)).alloc (.cells #[.pointer none] 24)).cell? ⟨wr.heap.size + 1, 0, none⟩ = some (.pointer none) := by
          simp
        generalize hgX : (wr.alloc (.cells #[.int .i64 0] 3)).alloc (.cells #[.pointer none] 24) = wX
        rw [hgX] at hsw hbX hcX hqX
        have hszX := hbX.size
        simp only [World.size_alloc]
        go_wp2_with fail
        refine (wpIn_wide (n := 8)).1 ?_
        refine range_none (α := Int × ByteArray) (encs := fun x => #[Value.int .i64 x.1, Value.string x.2]) rfl (by omega) (gf := 26) (lb := #[.pointer (some ⟨wr.heap.size + 1, 0, none⟩)]) rfl trivial (enters_of Try.func26 (by kernel_rfl) rfl)
          (all_stops Fence.wide _ trivial rfl (wr.heap.size + 1) wX (by omega) hqX) (Below.refl _ _) (fun _ => rfl) (fun l act W K hK => by gi_wp2; exact hK)
          (fun W => W.cell? ⟨wr.heap.size, 0, none⟩ = some (.int .i64 0) ∧ Below w.heap.size w W)
          (OwnFrom.and (Own.from (fun s A B row hs hg hr => cell_kept hs hg hr) _) (ownFrom_below (Nat.le_refl _) hszX))
          ⟨hcX, hbX⟩ ?done
        case done =>
          rintro D W hD ⟨hcW, hBW⟩ hK
          try dsimp only
          go_wp2_with fail
          refine (Qstring.take_nil _).mono ?_
          rintro e w4 ⟨rfl, rfl⟩
          dsimp only
          go_wp2_with fail
          refine (Qstring.put_nil _ _).mono ?_
          rintro e w5 ⟨rfl, rfl⟩
          dsimp only
          go_wp2_with fail
          refine (Qstring.len_nil _).mono ?_
          rintro e w6 ⟨rfl, rfl⟩
          dsimp only
          go_wp2_with fail
          refine (Qstring.credit_nil _).mono ?_
          rintro e w7 ⟨rfl, rfl⟩
          dsimp only
          go_wp2_with fail
          refine ⟨by simp, .inl ⟨_, _, rfl, run_takeDeferred hK, ?_⟩⟩
          exact ⟨_, results_tmp rfl _ _ _, by simp, hBW.trans (belowK_b (w := w) (Nat.le_refl _) W D _ _ (by omega) hK rfl rfl)⟩
      · have hd1 : decide ((i : Int) < (n : Int)) = true := by simp; omega
        have hd2 : decide ((i : Int) < 300) = false := by simp; omega
        go_wp2_with fail
        refine (all_nil _).mono ?_
        rintro e w3 ⟨rfl, rfl⟩
        dsimp only
        have hsw : ((wr.alloc (.cells #[.int .i64 0] 3)).alloc (.cells #[.pointer none] 24)).heap.size = wr.heap.size + 1 + 1 := by simp
        have hbX : Below w.heap.size w ((wr.alloc (.cells #[.int .i64 0] 3)).alloc (.cells #[.pointer none] 24)) := (hbel.alloc hsz _).alloc (by simp; omega) _
        have hcX : ((wr.alloc (.cells #[.int .i64 0] 3)).alloc (.cells #[.pointer none] 24)).cell? ⟨wr.heap.size, 0, none⟩ = some (.int .i64 0) := ((Blk.new wr #[.int .i64 0] 3).alloc _).cellAt rfl
        have hqX : ((wr.alloc (.cells #[.int .i64 0] 3)).alloc (.cells #[.pointer none] 24)).cell? ⟨wr.heap.size + 1, 0, none⟩ = some (.pointer none) := by
          simp
        generalize hgX : (wr.alloc (.cells #[.int .i64 0] 3)).alloc (.cells #[.pointer none] 24) = wX
        rw [hgX] at hsw hbX hcX hqX
        have hszX := hbX.size
        simp only [World.size_alloc]
        go_wp2_with fail
        refine (wpIn_wide (n := 8)).1 ?_
        refine range_none (α := Int × ByteArray) (encs := fun x => #[Value.int .i64 x.1, Value.string x.2]) rfl (by omega) (gf := 26) (lb := #[.pointer (some ⟨wr.heap.size + 1, 0, none⟩)]) rfl trivial (enters_of Try.func26 (by kernel_rfl) rfl)
          (all_stops Fence.wide _ trivial rfl (wr.heap.size + 1) wX (by omega) hqX) (Below.refl _ _) (fun _ => rfl) (fun l act W K hK => by gi_wp2; exact hK)
          (fun W => W.cell? ⟨wr.heap.size, 0, none⟩ = some (.int .i64 0) ∧ Below w.heap.size w W)
          (OwnFrom.and (Own.from (fun s A B row hs hg hr => cell_kept hs hg hr) _) (ownFrom_below (Nat.le_refl _) hszX))
          ⟨hcX, hbX⟩ ?done
        case done =>
          rintro D W hD ⟨hcW, hBW⟩ hK
          try dsimp only
          go_wp2_with fail
          refine (Qstring.take_nil _).mono ?_
          rintro e w4 ⟨rfl, rfl⟩
          dsimp only
          go_wp2_with fail
          refine (Qstring.put_nil _ _).mono ?_
          rintro e w5 ⟨rfl, rfl⟩
          dsimp only
          go_wp2_with fail
          refine (Qstring.len_nil _).mono ?_
          rintro e w6 ⟨rfl, rfl⟩
          dsimp only
          go_wp2_with fail
          refine (Qstring.credit_nil _).mono ?_
          rintro e w7 ⟨rfl, rfl⟩
          dsimp only
          go_wp2_with fail
          refine ⟨by simp, .inl ⟨_, _, rfl, run_takeDeferred hK, ?_⟩⟩
          exact ⟨_, results_tmp rfl _ _ _, by simp, hBW.trans (belowK_b (w := w) (Nat.le_refl _) W D _ _ (by omega) hK rfl rfl)⟩
theorem orders_row {w : World} (a0 : Int) (_ : (Lit.int .i64 a0).wf = true) (ao : Option Addr) (len cap : Nat) (xs : List Bool) (h : RSl w.heap.size 1 RB w (Value.cells (.slice ao len cap)).toList xs) :
    Calls Try.prog 5 #[.int .i64 a0, .slice ao len cap] w fun e w' => e = .returned (.bool true) ∧ Below w.heap.size w w' := by
  obtain ⟨a1, c1, h1, h2⟩ := h
  obtain ⟨rfl, rfl, rfl⟩ : ao = a1 ∧ len = xs.length ∧ cap = c1 := by simpa [Value.cells] using h1
  exact orders_walk a0 ao cap xs w h2
end Go.Proofs.Ytoiaijfmppbodaa
