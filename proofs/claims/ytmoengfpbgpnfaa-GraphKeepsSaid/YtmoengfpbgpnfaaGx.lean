/- Graph: the reference's Reach. -/
import Derived.Test.YtmoengfpbgpnfaaGm
import Derived.Test.YtmoengfpbgpnfaaBaseW
namespace Go.Proofs.Ytmoengfpbgpnfaa
open Go.RowKit
set_option linter.unusedVariables false

theorem rch_self (ops : List TOp) (a : Nat) : rch ops a a = true := rch_iff.2 (.refl _)
theorem rch_gt {ops : List TOp} (hg : OkG ops) {a b : Nat} (h : b < a) : rch ops a b = false := by
  cases hr : rch ops a b with
  | false => rfl
  | true => have := (rch_iff.1 hr).le hg; omega
theorem rch_hit {ops : List TOp} {a b c : Nat} {o : TOp} (ho : ops[b]? = some o) (hc : (c : Int) ∈ o.fIn) (h : rch ops a c = true) : rch ops a b = true :=
  rch_iff.2 ((rch_iff.1 h).trans (.step ⟨o, ho, hc⟩ (.refl _)))
theorem rch_none {ops : List TOp} {a b : Nat} {o : TOp} (hab : a ≠ b) (ho : ops[b]? = some o) (h : ∀ c : Nat, (c : Int) ∈ o.fIn → rch ops a c = false) : rch ops a b = false := by
  cases hr : rch ops a b with
  | false => rfl
  | true =>
    rcases (pathG_tail a b).1 (rch_iff.1 hr) with e | ⟨c, h1, o', h2, h3⟩
    · exact absurd e hab
    · rw [ho] at h2
      cases h2
      have := h c h3
      rw [rch_iff.2 h1] at this
      cases this

set_option maxRecDepth 100000 in
set_option maxHeartbeats 2000000 in
theorem rreach_any (ops : List TOp) (cap : Nat) (gb goff : Nat) (B : Nat) (hG : OkG ops) : ∀ (d b a : Nat) (w : World), b < d → B ≤ w.heap.size → SlA B 7 (ROp B) w (some ⟨gb, goff, none⟩) cap ops → b < ops.length → a < ops.length →
    Calls Try.prog 14 #[.agg #[.slice (some ⟨gb, goff, none⟩) ops.length cap], .int .i64 a, .int .i64 b] w fun e w' => e = .returned (.bool (rch ops a b)) ∧ Below w.heap.size w w' := by
  intro d
  induction d with
  | zero => intro b a w h; omega
  | succ d ih =>
    intro b a w hbd hB hx hbn han
    have hgb := hx.lt (show 0 < ops.length by omega)
    by_cases hab : a = b
    · subst hab
      rw [rch_self]
      have hab2 : ((a : Int) == (a : Int)) = true := by simp
      generalize ops.length = n
      go_enter Try.func14, Try.ntmps14
      go_wp2_with fail
      go_ret
      exact ⟨rfl, (by repeat (first | exact Below.refl _ _ | assumption | refine below_drewN ?_ _ | refine Below.drew ?_ | (refine Below.setCell ?_ (by first | omega | (simp; omega) | simp) _) | (refine Below.alloc ?_ (by first | omega | (simp; omega) | simp) _) | (refine Below.trans ?_ (Below.mono (by assumption) (by first | omega | (simp; omega) | simp)))))⟩
    by_cases hlt : b < a
    · rw [rch_gt hG hlt]
      have h1 : ((a : Int) == (b : Int)) = false := by simp; omega
      have h2 : decide ((b : Int) < (a : Int)) = true := by simp; omega
      generalize ops.length = n
      go_enter Try.func14, Try.ntmps14
      go_wp2_with fail
      go_ret
      exact ⟨rfl, (by repeat (first | exact Below.refl _ _ | assumption | refine below_drewN ?_ _ | refine Below.drew ?_ | (refine Below.setCell ?_ (by first | omega | (simp; omega) | simp) _) | (refine Below.alloc ?_ (by first | omega | (simp; omega) | simp) _) | (refine Below.trans ?_ (Below.mono (by assumption) (by first | omega | (simp; omega) | simp)))))⟩
    · obtain ⟨o, ho⟩ : ∃ o, ops[b] = o := ⟨_, rfl⟩
      have hob : ops[b]? = some o := by rw [List.getElem?_eq_getElem hbn, ho]
      have hins := hG.ins b o hob
      have h1 : ((a : Int) == (b : Int)) = false := by simp; omega
      have h2 : decide ((b : Int) < (a : Int)) = false := by simp; omega
      have h3 : decide (b < a) = false := by simp; omega
      obtain ⟨n, hn⟩ : ∃ n, n = ops.length := ⟨_, rfl⟩
      have ihx := fun (c : Nat) (hc : c < b) (W : World) (hW : Below w.heap.size w W) => ih c a W (by omega) (Nat.le_trans hB hW.size) (imp_ops hx (hW.mono hB)) (by omega) han
      rw [← hn] at ihx hbn han ⊢
      have hnone : (∀ c : Nat, (c : Int) ∈ o.fIn → rch ops a c = false) → rch ops a b = false := fun h => rch_none hab hob h
      have hhit : ∀ c : Nat, (c : Int) ∈ o.fIn → rch ops a c = true → rch ops a b = true := fun c h1 h2 => rch_hit hob h1 h2
      obtain ⟨res, hres⟩ : ∃ r, r = rch ops a b := ⟨_, rfl⟩
      rw [← hres] at hnone hhit ⊢
      replace hnone := Lib.hid hnone
      replace hhit := Lib.hid hhit
      replace hins := Lib.hid hins
      have hog := Lib.hid ho
      replace hn := Lib.hid hn
      replace ihx := Lib.hid ihx
      clear hres ih hob ho hG
      go_enter Try.func14, Try.ntmps14
      go_wp2_with fail
      have hbl : Blk (w.alloc (.cells #[.slice (some ⟨gb, goff, none⟩) n cap] 24)) w.heap.size #[.slice (some ⟨gb, goff, none⟩) n cap] 24 := Blk.new _ _ _
      have hb0 : Below w.heap.size w (w.alloc (.cells #[.slice (some ⟨gb, goff, none⟩) n cap] 24)) := (Below.refl _ _).alloc (Nat.le_refl _) _
      generalize w.alloc (.cells #[.slice (some ⟨gb, goff, none⟩) n cap] 24) = w1 at hbl hb0 ⊢
      have hbnx : b < ops.length := by rw [← hn.out]; exact hbn
      obtain ⟨il, hil⟩ : ∃ il, il = o.fIn.length := ⟨_, rfl⟩
      replace hil := Lib.hid hil
      go_loopw [7] (fun k wr => ∃ kk : Nat, kk ≤ il ∧ k = .int .i64 kk ∧ Below w.heap.size w wr ∧ Blk wr w.heap.size #[.slice (some ⟨gb, goff, none⟩) n cap] 24 ∧ Hid (∀ j (h : j < o.fIn.length), j < kk → ∀ c : Nat, (c : Int) = o.fIn[j] → rch ops a c = false)) (fun k _ => il - (intOf k).toNat)
      case atStart => exact ⟨0, Nat.zero_le _, rfl, hb0, hbl, Lib.hid (fun j h h0 => absurd h0 (Nat.not_lt_zero _))⟩
      case round =>
        clear hbl hb0 w1
        obtain ⟨kk, hk, rfl, hbel, hbl, hpre⟩ := hrel
        obtain ⟨ao1, cap1, e0, e1, e2, e3, e4, e5, e6, _, hin, _⟩ := ROp.at (imp_ops hx (hbel.mono hB)) hbnx hog.out
        rw [← hil.out] at e1
        have hill := hin.len
        rw [← hil.out] at hill
        have cg := hbl.cellAt (i := 0) (v := .slice (some ⟨gb, goff, none⟩) n cap) rfl
        have hgw : gb < wr.heap.size := by have := hbel.size; omega
        clear e0 e2 e3 e4 e5 e6
        by_cases hkl : kk < il
        · have hklx : kk < o.fIn.length := by rw [← hil.out]; exact hkl
          obtain ⟨b2, off2, rfl, hb2, _⟩ := hin.addr (by omega)
          obtain ⟨hv0, hv1⟩ := hins.out o.fIn[kk] (List.getElem_mem hklx)
          obtain ⟨c, hc⟩ : ∃ c : Nat, (c : Int) = o.fIn[kk] := ⟨o.fIn[kk].toNat, by omega⟩
          have hcb : c < b := by omega
          have cin : wr.cell? ⟨b2, off2 + kk, none⟩ = some (.int .i64 c) := by
            obtain ⟨cs, _, h6, rfl, _⟩ := hin.get kk hklx
            have h7 := h6 0 (by omega)
            rw [Nat.mul_one, Nat.add_zero] at h7
            rw [h7, hc]
            rfl
          have hmem : (c : Int) ∈ o.fIn := by rw [hc]; exact List.getElem_mem hklx
          replace hc := Lib.hid hc
          have hb2w : b2 < wr.heap.size := by have := hbel.size; omega
          clear hv0 hv1 hin
          go_wp2_with fail
          refine wp_region_quiet_tail 11 (by kernel_rfl) (by kernel_rfl) ?_
          simp only [List.take_succ_cons, List.take_zero, List.drop_succ_cons, List.drop_zero]
          repeat (go_big_quiet_step (fail))
          refine wpQuiet_nil ?_
          intro _ hw'
          obtain ⟨nq, hw''⟩ := hw'
          subst hw''
          have hcall := ihx.out c hcb (wr.drewN nq) (below_drewN hbel nq)
          obtain ⟨v, hv⟩ : ∃ v, v = rch ops a c := ⟨_, rfl⟩
          rw [← hv] at hcall
          replace hmem := Lib.hid hmem
          replace hv := Lib.hid hv
          go_wp2_with fail
          refine hcall.mono ?_
          rintro e w3 ⟨rfl, hb3⟩
          have hbel3 := (below_drewN hbel nq).trans (hb3.mono (below_drewN hbel nq).size)
          have hbl3 := (hbl.drewN nq).below hb3 (hbl.drewN nq).lt
          clear hcall hb3
          cases v with
          | true =>
            obtain rfl : res = true := hhit.out c hmem.out hv.out.symm
            dsimp only
            go_wp2_with fail
            go_ret
            exact ⟨rfl, hbel3⟩
          | false =>
            have hnext : Hid (∀ j (h : j < o.fIn.length), j < kk + 1 → ∀ c : Nat, (c : Int) = o.fIn[j] → rch ops a c = false) := Lib.hid (fun j h hj c' hc' => by
              by_cases hjk : j = kk
              · subst hjk
                obtain rfl : c' = c := by have := hc.out; omega
                exact hv.out.symm
              · exact hpre.out j h (by omega) c' hc')
            dsimp only
            go_wp2_with fail
            go_roundw
            case rel => exact ⟨kk + 1, by omega, by go_num, hbel3, hbl3, hnext⟩
            case measure => simp [intOf]; omega
        · obtain rfl : kk = il := by omega
          obtain rfl : res = false := hnone.out (fun c hc => by
            obtain ⟨j, hj, e⟩ := List.getElem_of_mem hc
            exact hpre.out j hj (by rw [hil.out]; exact hj) c e.symm)
          go_wp2_with fail
          go_ret
          exact ⟨rfl, hbel⟩
end Go.Proofs.Ytmoengfpbgpnfaa
