/- Model: Run; when pairs, states are the same. -/
import Derived.Test.YtbianedgogdeeaaMr
namespace Go.Proofs.Ytbianedgogdeeaa
open Go.RowKit Go.Maps Fold Go.Lib
attribute [local go_sem] Oper.semAt_some
set_option linter.unusedVariables false
set_option linter.unusedSimpArgs false

/-- Run, whatever it is given. -/
theorem run_any (ops : List TOp) (s : ST) (recs : List TRecord) (ga so ra : Option Addr) (gcap scap rcap B : Nat) (w : World) (hB : B ≤ w.heap.size) (hx : SlA B 7 (ROp B) w ga gcap ops) (hs : StA w B so scap s) (hr : SlA B 5 (RRecord B) w ra rcap recs) (hsok : okS s) (hsz : ∀ l ∈ s, l.length ≤ 5864062014805) :
    Calls Try.prog 10 #[.agg #[.slice ga ops.length gcap], .agg #[.slice so s.length scap], .slice ra recs.length rcap] w (RunPost w (runM ops s recs)) := by
  unfold runM
  by_cases h1 : (gcheck ops).2 ≠ 0
  · rw [if_pos h1]
    exact run_graph ops s recs ga so ra gcap scap rcap B w hB hx h1
  rw [if_neg h1]
  have h1' : (gcheck ops).2 = 0 := by omega
  by_cases h2 : goodS ops s = false
  · rw [if_pos h2]
    exact run_form ops s recs ga so ra gcap scap rcap B w hB hx hs h1' h2
  rw [if_neg h2]
  have h2' : goodS ops s = true := by simpa using h2
  by_cases h3 : 512 < recs.length
  · rw [if_pos h3]
    exact run_long ops s recs ga so ra gcap scap rcap B w hB hx hs h1' h2' h3
  rw [if_neg h3]
  exact run_ok ops s recs ga so ra gcap scap rcap B w hB hx hs hr h1' h2' (by omega) hsok hsz

theorem StO.sta {w : World} {base : Nat} {sv : Value} {st : ST} (h : StO w base sv st) : ∃ so cap, sv = .slice so st.length cap ∧ StA w w.heap.size so cap st := by
  rcases h with ⟨rfl, rfl⟩ | ⟨nr, ns, rfl, hB, _, hl, ⟨_, h16⟩, hr⟩
  · exact ⟨none, 0, rfl, SlA.nil _ _ _ _⟩
  · refine ⟨_, ns.length, by rw [hl], SlA.of_blk hB hB.lt (by omega) ?_ (fun i hi => ?_)⟩
    · unfold maxLen; omega
    · obtain ⟨v, h1, h2⟩ := hr i hi
      obtain ⟨ao, cap, rfl, h3⟩ := OwnR.pra h2
      exact ⟨[.slice ao st[i].length cap], rfl, fun j hj => by
        obtain rfl : j = 0 := by omega
        rw [Nat.mul_one, Nat.add_zero]
        simpa using h1, ao, cap, rfl, h3⟩
theorem StO.below {w w' : World} {base : Nat} {sv : Value} {st : ST} (h : StO w base sv st) (hb : Below w.heap.size w w') : StO w' base sv st := by
  rcases h with h | ⟨nr, ns, rfl, hB, h1, hl, h0, hr⟩
  · exact .inl h
  · refine .inr ⟨nr, ns, rfl, hB.below hb hB.lt, h1, hl, h0, fun j hj => ?_⟩
    obtain ⟨v, h2, h3⟩ := hr j hj
    exact ⟨v, h2, h3.below hb (Nat.le_refl _)⟩

set_option maxRecDepth 100000 in
set_option maxHeartbeats 1000000 in
theorem same_any (a b : PRS) (ao bo : Option Addr) (ac bc B : Nat) (w : World) (hB : B ≤ w.heap.size) (ha : PrA B w ao ac a) (hb : PrA B w bo bc b) :
    Calls Try.prog 13 #[.slice ao a.length ac, .slice bo b.length bc] w fun e w' => e = .returned (.bool (decide (a = b))) ∧ Below w.heap.size w w' := by
  have hla := ha.len
  have hlb := hb.len
  obtain ⟨na, hna⟩ : ∃ na, na = a.length := ⟨_, rfl⟩
  obtain ⟨nb, hnb⟩ : ∃ nb, nb = b.length := ⟨_, rfl⟩
  rw [← hna] at hla ⊢
  rw [← hnb] at hlb ⊢
  obtain ⟨r, hr⟩ : ∃ r, r = decide (a = b) := ⟨_, rfl⟩
  rw [← hr]
  by_cases hl : na = nb
  · have d0 : ((na : Int) != (nb : Int)) = false := by simp; omega
    subst hl
    replace hna := Lib.hid hna
    replace hnb := Lib.hid hnb
    replace hr := Lib.hid hr
    go_enter Try.func13, Try.ntmps13
    go_wp2_with fail
    go_loopw [5] (fun x5 wr => ∃ i : Nat, i ≤ na ∧ x5 = .int .i64 i ∧ Below w.heap.size w wr ∧ Hid (a.take i = b.take i)) (fun x5 _ => na - (intOf x5).toNat)
    case atStart => exact ⟨0, Nat.zero_le _, rfl, Below.refl _ _, Lib.hid rfl⟩
    case round =>
      obtain ⟨i, hi, rfl, hbr, hpre⟩ := hrel
      by_cases hin : i < na
      · have d1 : decide ((i : Int) < (na : Int)) = true := by simp; omega
        have hia : i < a.length := by rw [← hna.out]; exact hin
        have hib : i < b.length := by rw [← hnb.out]; exact hin
        obtain ⟨ab, aoff, rfl, hab, _⟩ := ha.addr (by omega)
        obtain ⟨bb, boff, rfl, hbb, _⟩ := hb.addr (by omega)
        obtain ⟨p0, p1⟩ := PrA.at (ha.imp' (hbr.mono hB) (Nat.le_refl _)) hia
        obtain ⟨q0, q1⟩ := PrA.at (hb.imp' (hbr.mono hB) (Nat.le_refl _)) hib
        have hta : a.take (i + 1) = a.take i ++ [a[i]] := by rw [List.take_add_one, List.getElem?_eq_getElem hia]; rfl
        have htb : b.take (i + 1) = b.take i ++ [b[i]] := by rw [List.take_add_one, List.getElem?_eq_getElem hib]; rfl
        obtain ⟨p, hp⟩ : ∃ p, a[i] = p := ⟨_, rfl⟩
        obtain ⟨q, hq⟩ : ∃ q, b[i] = q := ⟨_, rfl⟩
        rw [hp] at p0 p1 hta
        rw [hq] at q0 q1 htb
        have hno : p ≠ q → r = false := fun h => by
          rw [hr.out]
          refine decide_eq_false fun e => h ?_
          subst e
          rw [← hp, ← hq]
        have hst := str_eq p.1 q.1
        obtain ⟨pk, pv⟩ := p
        obtain ⟨qk, qv⟩ := q
        dsimp only at p0 p1 q0 q1 hst
        have habw : ab < wr.heap.size := by have := hbr.size; omega
        have hbbw : bb < wr.heap.size := by have := hbr.size; omega
        by_cases hk : pk = qk
        · subst hk
          simp only [decide_true] at hst
          have hst2 : (pk.toList != pk.toList) = false := by simp
          by_cases hv : pv = qv
          · subst hv
            have hn1 : Hid (a.take (i + 1) = b.take (i + 1)) := Lib.hid (by rw [hta, htb, hpre.out])
            have d2 : ((pv : Int) != (pv : Int)) = false := by simp
            clear hta htb hpre hno hp hq hst
            go_wp2_with fail
            go_quiet (fail)
            go_wp2_with fail
            go_roundw
            case rel => exact ⟨i + 1, by omega, by go_num, (by repeat (first | exact Below.refl _ _ | assumption | refine below_drewN ?_ _ | refine Below.drew ?_ | (refine Below.setCell ?_ (by first | omega | (simp; omega) | simp) _) | (refine Below.alloc ?_ (by first | omega | (simp; omega) | simp) _) | (refine Below.trans ?_ (Below.mono (by assumption) (by first | omega | (simp; omega) | simp))))), hn1⟩
            case measure => simp [intOf]; omega
          · have hrf := hno (fun e => hv (congrArg Prod.snd e))
            subst hrf
            have d2 : ((pv : Int) != (qv : Int)) = true := by simp; omega
            clear hta htb hpre hno hp hq hst hv
            go_wp2_with fail
            go_quiet (fail)
            go_wp2_with fail
            go_ret
            exact ⟨rfl, (by repeat (first | exact Below.refl _ _ | assumption | refine below_drewN ?_ _ | refine Below.drew ?_ | (refine Below.setCell ?_ (by first | omega | (simp; omega) | simp) _) | (refine Below.alloc ?_ (by first | omega | (simp; omega) | simp) _) | (refine Below.trans ?_ (Below.mono (by assumption) (by first | omega | (simp; omega) | simp)))))⟩
        · have hrf := hno (fun e => hk (congrArg Prod.fst e))
          subst hrf
          rw [decide_eq_false hk] at hst
          clear hta htb hpre hno hp hq hk
          go_wp2_with fail
          go_quiet (fail)
          go_wp2_with fail
          go_ret
          exact ⟨rfl, (by repeat (first | exact Below.refl _ _ | assumption | refine below_drewN ?_ _ | refine Below.drew ?_ | (refine Below.setCell ?_ (by first | omega | (simp; omega) | simp) _) | (refine Below.alloc ?_ (by first | omega | (simp; omega) | simp) _) | (refine Below.trans ?_ (Below.mono (by assumption) (by first | omega | (simp; omega) | simp)))))⟩
      · have d1 : decide ((i : Int) < (na : Int)) = false := by simp; omega
        have hrt : r = true := by
          rw [hr.out]
          refine decide_eq_true ?_
          have := hpre.out
          rwa [List.take_of_length_le (by have := hna.out; omega), List.take_of_length_le (by have := hnb.out; omega)] at this
        subst hrt
        clear hpre
        go_wp2_with fail
        go_ret
        exact ⟨rfl, (by repeat (first | exact Below.refl _ _ | assumption | refine below_drewN ?_ _ | refine Below.drew ?_ | (refine Below.setCell ?_ (by first | omega | (simp; omega) | simp) _) | (refine Below.alloc ?_ (by first | omega | (simp; omega) | simp) _) | (refine Below.trans ?_ (Below.mono (by assumption) (by first | omega | (simp; omega) | simp)))))⟩
  · have d0 : ((na : Int) != (nb : Int)) = true := by simp; omega
    have hrf : r = false := by
      rw [hr]
      exact decide_eq_false (fun e => hl (by rw [hna, hnb, e]))
    subst hrf
    clear hr hl
    replace hna := Lib.hid hna
    replace hnb := Lib.hid hnb
    go_enter Try.func13, Try.ntmps13
    go_wp2_with fail
    go_ret
    exact ⟨rfl, Below.refl _ _⟩
end Go.Proofs.Ytbianedgogdeeaa
