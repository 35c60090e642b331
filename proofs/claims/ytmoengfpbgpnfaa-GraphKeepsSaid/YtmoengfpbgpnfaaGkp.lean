/- Graph: the walk of GraphKeeps. -/
import Derived.Test.YtmoengfpbgpnfaaGs
import Derived.Test.YtmoengfpbgpnfaaGx
import Derived.Test.YtmoengfpbgpnfaaGk
import Derived.Test.YtmoengfpbgpnfaaOg
import Derived.Test.YtmoengfpbgpnfaaGlaw1
namespace Go.Proofs.Ytmoengfpbgpnfaa
open Go.RowKit
set_option linter.unusedVariables false
set_option linter.unusedSimpArgs false

/-- Of the rows of bools whose header lies at hb: those from i on are still there. -/
structure KRows (w : World) (hb n i : Nat) (ρ : Nat → Nat) (H : Array Value) (f : Nat → Nat → Bool) : Prop where
  hdr : Blk w hb H 42
  at_ : ∀ x, i ≤ x → x < n → H[x]? = some (.slice (some ⟨ρ x, 0, none⟩) n n)
  rows : ∀ x, i ≤ x → x < n → Blk w (ρ x) (rowV n (f x)) 4
  inj : ∀ x y, x < n → y < n → ρ x = ρ y → x = y
namespace KRows
variable {w w' : World} {hb n i : Nat} {ρ : Nat → Nat} {H : Array Value} {f : Nat → Nat → Bool}
theorem of_part {base : Nat} {rs : List Nat} (h : RPart w base hb n 0 rs f) : KRows w hb n 0 (fun x => rs.getD x 0) (hdrV n 0 rs) f := by
  have hl := h.len
  refine ⟨h.hdr, fun x _ hx => ?_, fun x _ hx => ?_, fun x y hx hy e => ?_⟩
  · have := hdrV_at (n := n) (i := 0) (rs := rs) (j := x) (by omega)
    rw [Nat.zero_add] at this
    rw [this]
    simp [List.getD_eq_getElem?_getD, List.getElem?_eq_getElem (show x < rs.length by omega)]
  · have := (h.rows x (by omega)).2.2
    rw [Nat.zero_add] at this
    simpa [List.getD_eq_getElem?_getD, List.getElem?_eq_getElem (show x < rs.length by omega)] using this
  · simp only [List.getD_eq_getElem?_getD, List.getElem?_eq_getElem (show x < rs.length by omega), List.getElem?_eq_getElem (show y < rs.length by omega), Option.getD_some] at e
    exact (List.getElem_inj h.nodup).1 e
theorem hne (h : KRows w hb n i ρ H f) {x : Nat} (hx : i ≤ x) (hn : x < n) : ρ x ≠ hb := blk_ne (h.rows x hx hn) h.hdr (by decide)
theorem hcell (h : KRows w hb n i ρ H f) {x : Nat} (hx : i ≤ x) (hn : x < n) : w.cell? ⟨hb, x, none⟩ = some (.slice (some ⟨ρ x, 0, none⟩) n n) := h.hdr.cellAt (h.at_ x hx hn)
theorem rcell (h : KRows w hb n i ρ H f) {x c : Nat} (hx : i ≤ x) (hn : x < n) (hc : c < n) : w.cell? ⟨ρ x, c, none⟩ = some (.bool (f x c)) := (h.rows x hx hn).cellAt (rowV_at _ hc)
theorem flip (h : KRows w hb n i ρ H f) {c : Nat} (hn : i < n) (hc : c < n) (b : Bool) : KRows (w.setCell ⟨ρ i, c, none⟩ (.bool b)) hb n i ρ H (fun y d => if y = i ∧ d = c then b else f y d) := by
  refine ⟨h.hdr.set_other (p := ⟨ρ i, c, none⟩) (Ne.symm (h.hne (Nat.le_refl _) hn)) _, h.at_, fun x hx hxn => ?_, h.inj⟩
  by_cases hxi : x = i
  · subst hxi
    have := (h.rows x hx hxn).set c (.bool b)
    rw [rowV_set _ _ hc] at this
    rw [rowV_congr (k := fun d => if d = c then b else f x d) (fun d hd => by simp)]
    exact this
  · rw [rowV_congr (k := f x) (fun d hd => by rw [if_neg (fun e => hxi e.1)])]
    exact (h.rows x hx hxn).set_other (p := ⟨ρ i, c, none⟩) (fun e => hxi (h.inj _ _ hxn hn e)) _
theorem next (h : KRows w hb n i ρ H f) (hn : i < n) {w1 : World} {S : Nat → Prop} (hc : Chg S w w1) (hS : ∀ k, S k → k = ρ i) (v : Value) : KRows (w1.setCell ⟨hb, i, none⟩ v) hb n (i + 1) ρ (H.setIfInBounds i v) f := by
  have hb1 := h.hdr.chg hc (fun e => h.hne (Nat.le_refl _) hn (hS _ e).symm)
  refine ⟨hb1.set i v, fun x hx hxn => ?_, fun x hx hxn => ?_, h.inj⟩
  · rw [Array.getElem?_setIfInBounds_ne (by omega)]
    exact h.at_ x (by omega) hxn
  · have h1 := (h.rows x (by omega) hxn).chg hc (fun e => by have := h.inj _ _ hxn hn (hS _ e); omega)
    exact h1.set_other (p := ⟨hb, i, none⟩) (h.hne (by omega) hxn) _
end KRows

/-- The state of GraphKeeps in its first loop: what lay below w2 is as it was, the rows of b too. -/
structure KSt (w2 wr : World) (ha hb n i : Nat) (ρ : Nat → Nat) (rsB : List Nat) (g : Nat → Nat → Bool) (base : Nat) : Prop where
  rows : ∃ H f, KRows wr ha n i ρ H f
  bel : Below w2.heap.size w2 wr
  b : RPart wr base hb n 0 rsB g
  ha1 : w2.heap.size ≤ ha
  ha2 : ha < base
  r1 : ∀ x, x < n → w2.heap.size ≤ ρ x ∧ ρ x < base
namespace KSt
variable {w2 wr wr' : World} {ha hb n i : Nat} {ρ : Nat → Nat} {rsB : List Nat} {g : Nat → Nat → Bool} {base : Nat}
theorem drewN (h : KSt w2 wr ha hb n i ρ rsB g base) (m : Nat) : KSt w2 (wr.drewN m) ha hb n i ρ rsB g base := by
  obtain ⟨H, f, k⟩ := h.rows
  exact ⟨⟨H, f, k.hdr.drewN m, k.at_, fun x hx hn => (k.rows x hx hn).drewN m, k.inj⟩, below_drewN h.bel m, h.b.chg ((Chg.refl (fun _ => False) wr).drewN m) (fun _ _ _ _ h => h), h.ha1, h.ha2, h.r1⟩
theorem flip (h : KSt w2 wr ha hb n i ρ rsB g base) {c : Nat} (hn : i < n) (hc : c < n) (b : Bool) : KSt w2 (wr.setCell ⟨ρ i, c, none⟩ (.bool b)) ha hb n i ρ rsB g base := by
  obtain ⟨H, f, k⟩ := h.rows
  have hr := h.r1 i hn
  exact ⟨⟨H, _, k.flip hn hc b⟩, h.bel.setCell (p := ⟨ρ i, c, none⟩) hr.1 _, h.b.chg ((Chg.refl (fun k => k = ρ i) wr).setCell ⟨ρ i, c, none⟩ _ (fun _ => rfl)) (fun b hb _ _ e => by omega), h.ha1, h.ha2, h.r1⟩
theorem next (h : KSt w2 wr ha hb n i ρ rsB g base) (hn : i < n) {w1 : World} {S : Nat → Prop} (hc : Chg S wr w1) (hS : ∀ k, S k → k = ρ i) (v : Value) : KSt w2 (w1.setCell ⟨ha, i, none⟩ v) ha hb n (i + 1) ρ rsB g base := by
  obtain ⟨H, f, k⟩ := h.rows
  have hr := h.r1 i hn
  have hb1 : Below w2.heap.size wr w1 := hc.below h.bel.size (fun k hk e => by have := hS k e; omega)
  have hB1 := h.b.chg hc (fun b hb _ _ e => by have := hS _ e; omega)
  have ha2 := h.ha2
  exact ⟨⟨_, f, k.next hn hc hS v⟩, (h.bel.trans hb1).setCell (p := ⟨ha, i, none⟩) h.ha1 _, hB1.chg ((Chg.refl (fun k => k = ha) w1).setCell ⟨ha, i, none⟩ _ (fun _ => rfl)) (fun b hb _ _ e => by omega), h.ha1, h.ha2, h.r1⟩
end KSt
theorem two_cells (w : World) (x y : Value) (T : TypeId) : ∀ j u, [x, y][j]? = some u → (w.alloc (.cells #[x, y] T)).cell? ((⟨w.heap.size, 0, none⟩ : Addr).add j) = some u := by
  intro j u hj
  have hb := Blk.new w #[x, y] T
  have : (⟨w.heap.size, 0, none⟩ : Addr).add j = ⟨w.heap.size, j, none⟩ := by unfold Addr.add; split <;> simp_all
  rw [this, hb.cell]
  simpa using hj
theorem row_owns {w : World} {r n : Nat} {g : Nat → Bool} (h : Blk w r (rowV n g) 4) (hn : n ≤ 16) : w.ownsRow r 4 1 (.slice (some ⟨r, 0, none⟩) n n) n (rowV n g).toList := by
  have hs := rowV_size n g
  refine ⟨by simpa using hs, .inr ⟨r, n, rowV n g, rfl, Nat.le_refl _, h, Nat.le_refl _, by unfold maxLen; omega, by rw [hs, Nat.mul_one], ?_⟩⟩
  rw [Nat.mul_one, List.take_of_length_le (by simp [hs])]

set_option maxRecDepth 100000 in
set_option maxHeartbeats 4000000 in
theorem keeps_ok (ops : List TOp) (cap : Nat) (ao : Option Addr) (w : World) (hx : SlA w.heap.size 7 (ROp w.heap.size) w ao cap ops) (hz : ops.length * 72 ≤ 140737488355328) (hzi : ∀ o ∈ ops, o.fIn.length * 8 ≤ 140737488355328) (hok : (gcheck ops).2 = 0) :
    Calls Try.prog 6 #[.agg #[.slice ao ops.length cap]] w fun e w' => e = .returned (.bool true) ∧ Below w.heap.size w w' := by
  have hG := okG_of_check hok
  have hg := fun W hb => gcheck_all ops cap ao W w.heap.size (Below.size hb) (imp_ops hx hb)
  have hR := fun W hb => reaches_ok ops cap ao W w.heap.size (Below.size hb) (imp_ops hx hb) hok
  have hC := fun W hb => copyGraph_any w.heap.size ops ao cap W (Below.size hb) (imp_ops hx hb) hz hzi
  have hpos := hG.pos
  have hmost := hG.most
  obtain ⟨gb, goff, rfl, hgb, _⟩ := hx.addr (by omega)
  have hrr := fun (a b : Nat) W hb (h1 : b < ops.length) (h2 : a < ops.length) => rreach_any ops cap gb goff w.heap.size hG (b + 1) b a W (by omega) (Below.size hb) (imp_ops hx hb) h1 h2
  obtain ⟨n, hn⟩ : ∃ n, n = ops.length := ⟨_, rfl⟩
  rw [← hn] at hg hpos hmost hR hC hrr ⊢
  obtain ⟨i0, hi, hz0, hz1, hz2⟩ := info_parts infoBool
  replace hn := Lib.hid hn
  replace hok := Lib.hid hok
  replace hG := Lib.hid hG
  replace hrr := Lib.hid hrr
  clear hz hzi
  go_enter Try.func6, Try.ntmps6
  go_wp2_with fail
  refine (known_any _).mono ?_
  rintro e w1 ⟨rfl, hb1⟩
  have hd1 : Hd [(w.heap.size, .slice (some ⟨gb, goff, none⟩) n cap, 24)] w1 := ((Hd.nil w).alloc (.slice (some ⟨gb, goff, none⟩) n cap) 24).below hb1 (Nat.le_refl _)
  have hbel : Below w.heap.size w w1 := (by repeat (first | exact Below.refl _ _ | assumption | refine below_drewN ?_ _ | refine Below.drew ?_ | (refine Below.setCell ?_ (by first | omega | (simp; omega) | simp) _) | (refine Below.alloc ?_ (by first | omega | (simp; omega) | simp) _) | (refine Below.trans ?_ (Below.mono (by assumption) (by first | omega | (simp; omega) | simp)))))
  clear hb1
  have cg := hd1.cell (b := w.heap.size) (v := .slice (some ⟨gb, goff, none⟩) n cap) (T := 24) (by simp)
  go_wp2_with fail
  refine (hC _ hbel).mono ?_
  rintro e w2 ⟨hb2, v, ps, rfl, hps, hpx⟩
  obtain ⟨ao2, cap2, rfl, hs2⟩ := hps.sla
  rw [hpx] at hs2
  have hpl : ps.length = n := by rw [hn.out, ← hpx, List.length_map]
  rw [hpl]
  have hd2 := (hd1.below hb2 (Nat.le_refl _)).alloc (.slice ao2 n cap2) 24
  have hb3 : Below w.heap.size w (w2.alloc (.cells #[.slice ao2 n cap2] 24)) := (hbel.trans (hb2.mono hbel.size)).alloc (hbel.trans (hb2.mono hbel.size)).size _
  have hs3 := imp_ops hs2 ((Below.refl w2.heap.size w2).alloc (Nat.le_refl _) (.cells #[.slice ao2 n cap2] 24))
  have hw2 : w.heap.size < w2.heap.size := by have := hb2.size; have := hd1.lt (b := w.heap.size) (v := .slice (some ⟨gb, goff, none⟩) n cap) (T := 24) (by simp); omega
  clear hbel cg hd1 hb2 hps hpx hpl hs2
  have cg := hd2.cell (b := w.heap.size) (v := .slice (some ⟨gb, goff, none⟩) n cap) (T := 24) (by simp)
  dsimp only
  go_wp2_with fail
  refine (hg _ hb3).mono ?_
  rintro e w4 ⟨rfl, hb4⟩
  have hd4 := hd2.below hb4 (Nat.le_refl _)
  have hs4 := imp_ops hs3 (hb4.mono (by simp))
  have hbel4 := hb3.trans (hb4.mono hb3.size)
  have hws : w2.heap.size + 1 ≤ w4.heap.size := by have := hb4.size; simpa using this
  obtain ⟨wb, hwb⟩ : ∃ wb, wb = w2.heap.size := ⟨_, rfl⟩
  rw [← hwb] at hd4 hs4 hws hw2 ⊢
  clear hb4 hb3 hs3 hd2 cg hg hC hwb w2 w1
  have cg := hd4.cell (b := w.heap.size) (v := .slice (some ⟨gb, goff, none⟩) n cap) (T := 24) (by simp)
  dsimp only
  go_wp2_with fail
  refine (hR _ hbel4).mono ?_
  rintro e w5 ⟨v, rfl, ⟨ha, rsA, rfl, hA⟩, hb5⟩
  have hd5 := hd4.below hb5 (Nat.le_refl _)
  have hbel5 := hbel4.trans (hb5.mono hbel4.size)
  clear cg
  have cg := hd5.cell (b := w.heap.size) (v := .slice (some ⟨gb, goff, none⟩) n cap) (T := 24) (by simp)
  dsimp only
  go_wp2_with fail
  refine (hR _ hbel5).mono ?_
  rintro e w6 ⟨v, rfl, ⟨hb, rsB, rfl, hB⟩, hb6⟩
  clear cg hR hd5
  have hk : KSt w4 w6 ha hb n 0 (fun x => rsA.getD x 0) rsB (rch ops) w5.heap.size := by
    refine ⟨⟨_, _, KRows.of_part (hA.below hb6 (Nat.le_refl _))⟩, hb5.trans (hb6.mono hb5.size), hB, hA.hbase, hA.hdr.lt, fun x hx => ?_⟩
    have hl := hA.len
    obtain ⟨h1, _, h3⟩ := hA.rows x (by omega)
    have h4 := h3.lt
    simpa [List.getD_eq_getElem?_getD, List.getElem?_eq_getElem (show x < rsA.length by omega)] using And.intro h1 h4
  generalize (fun x => rsA.getD x 0) = ρ at hk
  generalize w5.heap.size = base at hk
  clear hb6 hb5 hbel5 hA hB
  dsimp only
  go_wp2_with fail
  go_loopw [6] (fun x wr => ∃ i : Nat, i ≤ n ∧ x = .int .i64 i ∧ KSt w4 wr ha hb n i ρ rsB (rch ops) base) (fun x _ => n - (intOf x).toNat)
  case atStart => exact ⟨0, Nat.zero_le _, rfl, hk⟩
  case round =>
    clear hk
    obtain ⟨i, hin, rfl, hk⟩ := hrel
    by_cases hlt : i < n
    · go_wp2_with fail
      go_loopw [7] (fun x wr => ∃ c : Nat, c ≤ n ∧ x = .int .i64 c ∧ KSt w4 wr ha hb n i ρ rsB (rch ops) base) (fun x _ => n - (intOf x).toNat)
      case atStart => exact ⟨0, Nat.zero_le _, rfl, hk⟩
      case round =>
        clear hk
        obtain ⟨c, hcn, rfl, hk⟩ := hrel
        obtain ⟨H, f, k⟩ := hk.rows
        have c1 := k.hcell (Nat.le_refl i) hlt
        by_cases hcl : c < n
        · have c2 := k.rcell (Nat.le_refl i) hlt hcl
          have f2 := (k.rows i (Nat.le_refl i) hlt).frozen c
          go_wp2_with fail
          refine wp_region_quiet_tail 14 (by kernel_rfl) (by kernel_rfl) ?_
          simp only [List.take_succ_cons, List.take_zero, List.drop_succ_cons, List.drop_zero]
          repeat (go_big_quiet_step (fail))
          refine wpQuiet_nil ?_
          intro _ hw'
          obtain ⟨nq, hw''⟩ := hw'
          subst hw''
          go_wp2_with fail
          go_roundw
          case rel => exact ⟨c + 1, by omega, by go_num, (hk.drewN nq).flip hlt hcl _⟩
          case measure => simp [intOf]; omega
        · obtain rfl : c = n := by omega
          go_wp2_with (at_builtin; refine Shut.out ?stopk)
          unfold Shut
          refine wpList_append_own_at _ rfl _ _ 42 rfl (ρ i) 4 i0 (.bool false) 1 1 Try.underlying42 hi hz0 hz1 hz2 rfl (by decide) _ c (rowV c (f i)).toList rfl (World.ownsRow.alloc (row_owns (k.rows i (Nat.le_refl i) hlt) hmost) _) ⟨wr.heap.size, 0, none⟩ 2 2 [.bool true, .bool true] rfl rfl (two_cells _ _ _ _) (by simp [Value.oneCell']) (by unfold maxLen; omega) (by omega) (by have := (k.rows i (Nat.le_refl i) hlt).lt; simp; omega) ?_
          intro v5 w5 hown5 hgr5 _ _
          rcases hown5.2 with ⟨_, h0⟩ | ⟨g5, cap5, cur5, rfl, _⟩
          · simp at h0
          have hc5 : Chg (fun k => k = ρ i) wr w5 := ((Chg.refl (fun k => k = ρ i) wr).alloc _).trans ((Chg.of_grown hgr5).mono (fun j _ e => by have e : some (ρ i) = some j := e; exact (Option.some.inj e).symm))
          have hh5 := k.hdr.chg hc5 (fun e => k.hne (Nat.le_refl i) hlt e.symm)
          have e1 := hh5.cellAt (k.at_ i (Nat.le_refl i) hlt)
          have e2 := hh5.frozen i
          have hk5 := hk.next hlt hc5 (fun _ h => h) (.slice (some ⟨g5, 0, none⟩) (c + 2) cap5)
          clear hown5 hgr5 hc5 hh5 c1 k hk
          go_wp2_with fail
          go_roundw
          case rel => exact ⟨i + 1, by omega, by go_num, hk5⟩
          case measure => simp [intOf]; omega
    · obtain rfl : i = n := by omega
      have hbelw := hbel4.trans (hk.bel.mono hbel4.size)
      have hsz := hbelw.size
      have hl4 := hbel4.size
      have h47 := hk.bel.size
      have hB := hk.b
      have hd := hd4.below hk.bel (Nat.le_refl _)
      have hs := imp_ops hs4 (hk.bel.mono (by omega))
      generalize hw7 : wr = w7 at *
      clear hw7 hk hd4 hs4
      go_wp2_with fail
      go_loopw [8] (fun x wr => ∃ a : Nat, a ≤ i ∧ x = .int .i64 a ∧ Below w7.heap.size w7 wr) (fun x _ => i - (intOf x).toNat)
      case atStart => exact ⟨0, Nat.zero_le _, rfl, Below.refl _ _⟩
      case round =>
        obtain ⟨a, han, rfl, hb7⟩ := hrel
        by_cases hai : a < i
        · obtain ⟨r, hr1, hr2⟩ := hB.hcell (Nat.zero_le a) hai
          go_wp2_with fail
          go_loopw [9] (fun x wr => ∃ c : Nat, c ≤ i ∧ x = .int .i64 c ∧ Below w7.heap.size w7 wr) (fun x _ => i - (intOf x).toNat)
          case atStart => exact ⟨0, Nat.zero_le _, rfl, hb7⟩
          case round =>
            clear hb7
            obtain ⟨c, hcn, rfl, hb7⟩ := hrel
            have c1 := (hB.below hb7 (Nat.le_refl _)).hcell (Nat.zero_le a) hai
            have hbw := hbelw.trans (hb7.mono hsz)
            have hsw := hbw.size
            have hs7 := hb7.size
            have cg := (hd.below hb7 (Nat.le_refl _)).cell (b := w.heap.size) (v := .slice (some ⟨gb, goff, none⟩) i cap) (T := 24) (by simp)
            obtain ⟨r2, hr3, c1⟩ := c1
            by_cases hcl : c < i
            · have c2 := (hB.below hb7 (Nat.le_refl _)).rcell (Nat.zero_le a) hr3 hcl
              have q1 := Wd.cell c1 (World.lt_of_cell c1)
              have q2 := Wd.cell c2 (World.lt_of_cell c2)
              have q3 := Wd.cell cg (World.lt_of_cell cg)
              have hcall := fun W hb => hrr.out a c W hb hcl hai
              generalize rch ops a c = vv at c2 q2 hcall
              have hvv : (vv != vv) = false := by simp
              clear hr1 hr2 hr3
              go_wp2_with fail
              refine wp_region_below (by kernel_rfl) (by kernel_rfl) ?_
              repeat (go_big_quiet_step ((go_at_call 14; exact Calls.quiet_below (hcall _ (hbw.trans (Below.mono (Wd.h _) hsw))))))
              refine wpQuiet_nil ?_
              rintro _ ⟨u, rfl⟩
              have hbu := hb7.trans (u.h.mono hs7)
              go_wp2_with fail
              go_roundw
              case rel => exact ⟨c + 1, by omega, by go_num, hbu⟩
              case measure => simp [intOf]; omega
            · go_wp2_with fail
              go_roundw
              case rel => exact ⟨a + 1, by omega, by go_num, hb7⟩
              case measure => simp [intOf]; omega
        · have hbw := hbelw.trans (hb7.mono hsz)
          have hd7 := hd.below hb7 (Nat.le_refl _)
          have cg := hd7.cell (b := w.heap.size) (v := .slice (some ⟨gb, goff, none⟩) i cap) (T := 24) (by simp)
          have cw := hd7.cell (b := wb) (v := .slice ao2 i cap2) (T := 24) (by simp)
          have hSm := sameGraph_any wb ops ops (some ⟨gb, goff, none⟩) ao2 cap cap2 wr (by have := hb7.size; omega) (hx.imp hbw (by omega) (fun _ _ _ h => h.imp hbw (by omega))) (imp_ops hs (hb7.mono (by omega)))
          rw [← hn.out] at hSm
          go_wp2_with fail
          refine hSm.mono ?_
          rintro e w9 ⟨⟨g, rfl, hg⟩, hb9⟩
          obtain rfl : g = true := by simpa using hg
          have hb9 := hbw.trans (hb9.mono hbw.size)
          go_wp2_with fail
          go_ret
          exact ⟨rfl, hb9⟩

set_option maxRecDepth 100000 in
set_option maxHeartbeats 4000000 in
theorem keeps_no (ops : List TOp) (cap : Nat) (ao : Option Addr) (w : World) (hx : SlA w.heap.size 7 (ROp w.heap.size) w ao cap ops) (hz : ops.length * 72 ≤ 140737488355328) (hzi : ∀ o ∈ ops, o.fIn.length * 8 ≤ 140737488355328) (hok : (gcheck ops).2 ≠ 0) :
    Calls Try.prog 6 #[.agg #[.slice ao ops.length cap]] w fun e w' => e = .returned (.bool true) ∧ Below w.heap.size w w' := by
  have hg := fun W hb => gcheck_all ops cap ao W w.heap.size (Below.size hb) (imp_ops hx hb)
  have hR := fun W hb => reaches_no ops cap ao W w.heap.size (Below.size hb) (imp_ops hx hb) hok
  have hC := fun W hb => copyGraph_any w.heap.size ops ao cap W (Below.size hb) (imp_ops hx hb) hz hzi
  obtain ⟨n, hn⟩ : ∃ n, n = ops.length := ⟨_, rfl⟩
  rw [← hn] at hg hR hC ⊢
  replace hn := Lib.hid hn
  clear hz hzi
  go_enter Try.func6, Try.ntmps6
  go_wp2_with fail
  refine (known_any _).mono ?_
  rintro e w1 ⟨rfl, hb1⟩
  have hd1 : Hd [(w.heap.size, .slice ao n cap, 24)] w1 := ((Hd.nil w).alloc (.slice ao n cap) 24).below hb1 (Nat.le_refl _)
  have hbel : Below w.heap.size w w1 := (by repeat (first | exact Below.refl _ _ | assumption | refine below_drewN ?_ _ | refine Below.drew ?_ | (refine Below.setCell ?_ (by first | omega | (simp; omega) | simp) _) | (refine Below.alloc ?_ (by first | omega | (simp; omega) | simp) _) | (refine Below.trans ?_ (Below.mono (by assumption) (by first | omega | (simp; omega) | simp)))))
  clear hb1
  have cg := hd1.cell (b := w.heap.size) (v := .slice ao n cap) (T := 24) (by simp)
  go_wp2_with fail
  refine (hC _ hbel).mono ?_
  rintro e w2 ⟨hb2, v, ps, rfl, hps, hpx⟩
  obtain ⟨ao2, cap2, rfl, hs2⟩ := hps.sla
  rw [hpx] at hs2
  have hpl : ps.length = n := by rw [hn.out, ← hpx, List.length_map]
  rw [hpl]
  have hd2 := (hd1.below hb2 (Nat.le_refl _)).alloc (.slice ao2 n cap2) 24
  have hb3 : Below w.heap.size w (w2.alloc (.cells #[.slice ao2 n cap2] 24)) := (hbel.trans (hb2.mono hbel.size)).alloc (hbel.trans (hb2.mono hbel.size)).size _
  have hs3 := imp_ops hs2 ((Below.refl w2.heap.size w2).alloc (Nat.le_refl _) (.cells #[.slice ao2 n cap2] 24))
  have hw2 : w.heap.size ≤ w2.heap.size := by have := hb2.size; have := hbel.size; omega
  clear hbel cg hd1 hb2 hps hpx hpl hs2
  have cg := hd2.cell (b := w.heap.size) (v := .slice ao n cap) (T := 24) (by simp)
  dsimp only
  go_wp2_with fail
  refine (hg _ hb3).mono ?_
  rintro e w4 ⟨rfl, hb4⟩
  have hd4 := hd2.below hb4 (Nat.le_refl _)
  have hs4 := imp_ops hs3 (hb4.mono (by simp))
  have hbel4 := hb3.trans (hb4.mono hb3.size)
  have hws : w2.heap.size + 1 ≤ w4.heap.size := by have := hb4.size; simpa using this
  obtain ⟨wb, hwb⟩ : ∃ wb, wb = w2.heap.size := ⟨_, rfl⟩
  rw [← hwb] at hd4 hs4 hws hw2 ⊢
  clear hb4 hb3 hs3 hd2 cg hg hC hwb w2 w1
  have cg := hd4.cell (b := w.heap.size) (v := .slice ao n cap) (T := 24) (by simp)
  dsimp only
  go_wp2_with fail
  refine (hR _ hbel4).mono ?_
  rintro e w5 ⟨rfl, hb5⟩
  have hd5 := hd4.below hb5 (Nat.le_refl _)
  have hbel5 := hbel4.trans (hb5.mono hbel4.size)
  clear cg
  have cg := hd5.cell (b := w.heap.size) (v := .slice ao n cap) (T := 24) (by simp)
  dsimp only
  go_wp2_with fail
  refine (hR _ hbel5).mono ?_
  rintro e w6 ⟨rfl, hb6⟩
  have hd6 := hd5.below hb6 (Nat.le_refl _)
  have hbel6 := hbel5.trans (hb6.mono hbel5.size)
  have hs6 := imp_ops (imp_ops hs4 (hb5.mono (by omega))) (hb6.mono (by have := hb5.size; omega))
  have hw6 : wb ≤ w6.heap.size := by have := hb5.size; have := hb6.size; omega
  clear cg
  dsimp only
  go_wp2_with fail
  go_loopw [6] (fun x wr => x = .int .i64 0 ∧ w6 = wr) (fun x _ => 0)
  case atStart => exact ⟨rfl, rfl⟩
  case round =>
    obtain ⟨rfl, rfl⟩ := hrel
    go_wp2_with fail
    go_loopw [8] (fun x wr => x = .int .i64 0 ∧ w6 = wr) (fun x _ => 0)
    case atStart => exact ⟨rfl, rfl⟩
    case round =>
      obtain ⟨rfl, rfl⟩ := hrel
      have cg := hd6.cell (b := w.heap.size) (v := .slice ao n cap) (T := 24) (by simp)
      have cw := hd6.cell (b := wb) (v := .slice ao2 n cap2) (T := 24) (by simp)
      have hSm := sameGraph_any wb ops ops ao ao2 cap cap2 w6 hw6 (hx.imp hbel6 hw2 (fun _ _ _ h => h.imp hbel6 hw2)) hs6
      rw [← hn.out] at hSm
      go_wp2_with fail
      refine hSm.mono ?_
      rintro e w9 ⟨⟨g, rfl, hg⟩, hb9⟩
      obtain rfl : g = true := by simpa using hg
      have hb9 := hbel6.trans (hb9.mono hbel6.size)
      go_wp2_with fail
      go_ret
      exact ⟨rfl, hb9⟩
theorem gkeeps_row {w : World} (cs : Array Value) (x : TGraph) (hx : RGraph w.heap.size w (Value.cells (.agg cs)).toList x) (hz : x.fOps.length * 72 ≤ reachBytes) (hzi : ∀ o ∈ x.fOps, o.fIn.length * 8 ≤ reachBytes) :
    Calls Try.prog 6 #[.agg cs] w fun e w' => e = .returned (.bool true) ∧ Below w.heap.size w w' := by
  obtain ⟨ao, cap, rfl, hs⟩ := graph_agg hx
  have hr : reachBytes = 140737488351232 := rfl
  by_cases hok : (gcheck x.fOps).2 = 0
  · exact keeps_ok x.fOps cap ao w hs (by omega) (fun o ho => by have := hzi o ho; omega) hok
  · exact keeps_no x.fOps cap ao w hs (by omega) (fun o ho => by have := hzi o ho; omega) hok
end Go.Proofs.Ytmoengfpbgpnfaa
