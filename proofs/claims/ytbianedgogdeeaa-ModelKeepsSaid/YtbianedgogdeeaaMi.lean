/- Model: Good. -/
import Derived.Test.YtbianedgogdeeaaMh
namespace Go.Proofs.Ytbianedgogdeeaa
open Go.RowKit Go.Maps Fold Go.Lib
attribute [local go_sem] Oper.semAt_some strGeq strGtr
set_option linter.unusedVariables false
set_option linter.unusedSimpArgs false

/-- A list that a state may keep. -/
def goodL (l : PRS) : Bool := l.all (fun p => decide (p.1.size ≤ 32)) && decide (Srt l)
def goodI (ops : List TOp) (s : ST) (i : Nat) : Bool := (decide ((keptAt s i).length = 0) || decide ((ops[i]?.map TOp.fKind) = some 4)) && goodL (keptAt s i)
theorem goodS_eq (ops : List TOp) (s : ST) : goodS ops s = (decide (s.length = 0) || (decide (s.length = ops.length) && (List.range s.length).all (goodI ops s))) := by
  unfold goodS goodI goodL
  simp only [Bool.and_assoc]
theorem srt_of_adj : ∀ (l : PRS), (∀ j (h : j + 1 < l.length), Op.bytesLess l[j].1.toList l[j + 1].1.toList = true) → Srt l
  | [], _ => List.Pairwise.nil
  | [p], _ => List.pairwise_singleton _ _
  | p :: q :: r, h => by
    have ih := srt_of_adj (q :: r) (fun j hj => h (j + 1) (by simpa using hj))
    have h0 := h 0 (by simp)
    refine List.pairwise_cons.2 ⟨fun x hx => ?_, ih⟩
    rcases List.mem_cons.1 hx with rfl | hx
    · exact h0
    · exact less_trans _ _ _ h0 ((List.pairwise_cons.1 ih).1 x hx)
theorem srt_adj {l : PRS} (h : Srt l) {j : Nat} (hj : j + 1 < l.length) : Op.bytesLess l[j].1.toList l[j + 1].1.toList = true := by
  unfold Srt at h
  exact List.pairwise_iff_getElem.1 h j (j + 1) (by omega) hj (by omega)
theorem goodL_true {l : PRS} (h : ∀ j (hj : j < l.length), l[j].1.size ≤ 32 ∧ (∀ k (hk : k + 1 = j), Op.bytesLess (l[k]'(by omega)).1.toList l[j].1.toList = true)) : goodL l = true := by
  unfold goodL
  rw [Bool.and_eq_true, List.all_eq_true, decide_eq_true_eq]
  refine ⟨fun p hp => ?_, srt_of_adj l (fun j hj => (h (j + 1) hj).2 j rfl)⟩
  obtain ⟨i, hi, rfl⟩ := List.getElem_of_mem hp
  exact decide_eq_true (h i hi).1
theorem goodL_size {l : PRS} {j : Nat} (hj : j < l.length) (h : 32 < l[j].1.size) : goodL l = false := by
  cases hg : goodL l with
  | false => rfl
  | true =>
    unfold goodL at hg
    rw [Bool.and_eq_true, List.all_eq_true] at hg
    have := of_decide_eq_true (hg.1 _ (List.getElem_mem hj))
    omega
theorem goodL_ord {l : PRS} {j : Nat} (hj : j + 1 < l.length) (h : Op.bytesLess l[j].1.toList l[j + 1].1.toList = false) : goodL l = false := by
  cases hg : goodL l with
  | false => rfl
  | true =>
    unfold goodL at hg
    rw [Bool.and_eq_true, decide_eq_true_eq] at hg
    rw [srt_adj hg.2 hj] at h
    cases h
theorem keptAt_eq {s : ST} {i : Nat} (hi : i < s.length) : keptAt s i = s[i] := by
  unfold keptAt
  rw [List.getElem?_eq_getElem hi]
  rfl
theorem goodS_bad {ops : List TOp} {s : ST} {i : Nat} (hi : i < s.length) (h : goodI ops s i = false) : goodS ops s = false := by
  rw [goodS_eq]
  have h1 : (List.range s.length).all (goodI ops s) = false := by
    rw [List.all_eq_false]
    exact ⟨i, List.mem_range.2 hi, by rw [h]; simp⟩
  rw [h1, Bool.and_false, Bool.or_false]
  simp
  intro e
  rw [e] at hi
  simp at hi
theorem goodS_len {ops : List TOp} {s : ST} (h0 : s.length ≠ 0) (h1 : s.length ≠ ops.length) : goodS ops s = false := by
  rw [goodS_eq]
  simp [h1]
  exact fun e => h0 (by rw [e]; rfl)
theorem goodS_true {ops : List TOp} {s : ST} (h1 : s.length = ops.length) (h : ∀ i, i < s.length → goodI ops s i = true) : goodS ops s = true := by
  rw [goodS_eq, h1, decide_eq_true rfl, Bool.true_and, ← h1]
  have : (List.range s.length).all (goodI ops s) = true := by
    rw [List.all_eq_true]
    exact fun i hi => h i (List.mem_range.1 hi)
  rw [this, Bool.or_true]

set_option maxRecDepth 100000 in
set_option maxHeartbeats 4000000 in
theorem good_any (ops : List TOp) (s : ST) (ga so : Option Addr) (gcap scap B : Nat) (w : World) (hB : B ≤ w.heap.size) (hx : SlA B 7 (ROp B) w ga gcap ops) (hs : StA w B so scap s) :
    Calls Try.prog 17 #[.agg #[.slice ga ops.length gcap], .agg #[.slice so s.length scap]] w fun e w' => e = .returned (.bool (goodS ops s)) ∧ Below w.heap.size w w' := by
  have hlx := hx.len
  have hls := hs.len
  obtain ⟨n, hn⟩ : ∃ n, n = ops.length := ⟨_, rfl⟩
  obtain ⟨m, hm⟩ : ∃ m, m = s.length := ⟨_, rfl⟩
  rw [← hn] at hlx ⊢
  rw [← hm] at hls ⊢
  obtain ⟨g, hg⟩ : ∃ g, g = goodS ops s := ⟨_, rfl⟩
  rw [← hg]
  by_cases h0 : m = 0
  · have hgt : g = true := by
      rw [hg, goodS_eq, ← hm, h0]
      rfl
    subst hgt
    clear hg
    subst h0
    replace hn := Lib.hid hn
    replace hm := Lib.hid hm
    clear hx hs
    go_enter Try.func17, Try.ntmps17
    go_wp2_with fail
    go_loopw [25] (fun x25 wr => x25 = .int .i64 0 ∧ Below w.heap.size w wr) (fun _ _ => 0)
    case atStart => exact ⟨rfl, (by repeat (first | exact Below.refl _ _ | refine below_drewN ?_ _ | refine Below.drew ?_ | (refine Below.alloc ?_ (by simp; try omega) _)))⟩
    case round =>
      obtain ⟨rfl, hbr⟩ := hrel
      go_wp2_with fail
      go_ret
      exact ⟨rfl, hbr⟩
  by_cases h1 : m = n
  · have d0 : ((m : Int) != 0) = true := by simp; omega
    have d1 : ((m : Int) != (n : Int)) = false := by simp; omega
    have hsn : s.length = ops.length := by omega
    subst h1
    replace hg := Lib.hid hg
    replace hn := Lib.hid hn
    replace hm := Lib.hid hm
    go_enter Try.func17, Try.ntmps17
    go_upto_region 1 with fail
    refine Code.wp_world ?_
    intro w1 hw1
    have hb1 : Below w.heap.size w w1 := by rw [hw1]; exact (by repeat (first | exact Below.refl _ _ | refine below_drewN ?_ _ | refine Below.drew ?_ | (refine Below.alloc ?_ (by simp; try omega) _)))
    have hG1 : Blk w1 w.heap.size #[.slice ga m gcap] 24 := by rw [hw1]; exact (Blk.new _ _ _).alloc _
    have hS1 : Blk w1 (w.heap.size + 1) #[.slice so m scap] 27 := by
      rw [hw1]
      have := Blk.new (w.alloc (.cells #[.slice ga m gcap] 24)) #[.slice so m scap] 27
      rwa [World.size_alloc] at this
    have g0 := hG1.cellAt (i := 0) (v := .slice ga m gcap) rfl
    have g1 := hS1.cellAt (i := 0) (v := .slice so m scap) rfl
    obtain ⟨z, hz⟩ : ∃ z, z = w.heap.size := ⟨_, rfl⟩
    have hz1 : z < w1.heap.size := by rw [hz]; exact hG1.lt
    rw [← hz] at g0 g1 ⊢
    clear hw1 hG1 hS1
    replace hz := Lib.hid hz
    go_wp2_with fail
    clear g1
    go_loopw [25] (fun x25 wr => ∃ i : Nat, i ≤ m ∧ x25 = .int .i64 i ∧ Below w1.heap.size w1 wr ∧ Hid (∀ j, j < i → goodI ops s j = true)) (fun x25 _ => m - (intOf x25).toNat)
    case atStart => exact ⟨0, Nat.zero_le _, rfl, Below.refl _ _, Lib.hid (fun j hj => by omega)⟩
    case round =>
      obtain ⟨i, hi, rfl, hbr, hpre⟩ := hrel
      have hbw := hb1.trans (hbr.mono hb1.size)
      by_cases hin : i < m
      · have d2 : decide ((i : Int) < (m : Int)) = true := by simp; omega
        have his : i < s.length := by rw [← hm.out]; exact hin
        have hio : i < ops.length := by rw [← hn.out]; exact hin
        obtain ⟨sb, soff, rfl, hsb, _⟩ := hs.addr (by omega)
        obtain ⟨gb, goff, rfl, hgb, _⟩ := hx.addr (by omega)
        obtain ⟨l, hl⟩ : ∃ l, s[i] = l := ⟨_, rfl⟩
        obtain ⟨o, ho⟩ : ∃ o, ops[i] = o := ⟨_, rfl⟩
        obtain ⟨la, lc, e0, hP⟩ := StA.at (hs.imp' (hbw.mono hB) (Nat.le_refl _)) his
        obtain ⟨_, _, k0, _⟩ := ROp.at (imp_ops hx (hbw.mono hB)) hio ho
        rw [hl] at e0 hP
        have hgi : goodI ops s i = ((decide (l.length = 0) || decide (o.fKind = 4)) && goodL l) := by
          unfold goodI
          rw [keptAt_eq his, hl, List.getElem?_eq_getElem hio, ho]
          simp
        have hbad : goodI ops s i = false → g = false := fun h => by rw [hg.out]; exact goodS_bad his h
        have hPl := hP.len
        obtain ⟨L, hL⟩ : ∃ L, L = l.length := ⟨_, rfl⟩
        rw [← hL] at e0 hgi hPl
        have hsbw : sb < wr.heap.size := by have := hbw.size; omega
        have hgbw : gb < wr.heap.size := by have := hbw.size; omega
        have g0r := (hbr.cell (p := ⟨z, 0, none⟩) hz1).trans g0
        have hzr : z < wr.heap.size := Nat.lt_of_lt_of_le hz1 hbr.size
        have hpre2 : goodI ops s i = true → Hid (∀ j, j < i + 1 → goodI ops s j = true) := fun h => Lib.hid (fun j hj => by
          by_cases e : j = i
          · subst e; exact h
          · exact hpre.out j (by omega))
        replace hl := Lib.hid hl
        replace ho := Lib.hid ho
        replace hL := Lib.hid hL
        replace hbad := Lib.hid hbad
        replace hpre2 := Lib.hid hpre2
        clear hpre g0
        by_cases hL0 : L = 0
        · subst hL0
          rw [decide_eq_true rfl, Bool.true_or, Bool.true_and] at hgi
          replace hgi := Lib.hid hgi
          go_wp2_with fail
          obtain ⟨wo, rfl⟩ : ∃ wo, wo = wr := ⟨_, rfl⟩
          go_loopw [44] (fun x44 wq => x44 = .int .i64 0 ∧ Below wo.heap.size wo wq) (fun _ _ => 0)
          case atStart => exact ⟨rfl, Below.refl _ _⟩
          case round =>
            obtain ⟨rfl, hbq⟩ := hrel
            have hlg : goodL l = true := goodL_true (fun j hj => by have := hL.out; omega)
            have hpn := hpre2.out (by rw [hgi.out]; exact hlg)
            have hbn := hbr.trans (hbq.mono hbr.size)
            clear hlg hpre2 hbad
            go_wp2_with fail
            go_roundw
            case rel => exact ⟨i + 1, by omega, by go_num, hbn, hpn⟩
            case measure => simp [intOf]; omega
        · by_cases hk4 : o.fKind = 4
          · have d3 : decide ((0 : Int) < (L : Int)) = true := by simp; omega
            have d4 : (o.fKind != 4) = false := by simp [hk4]
            rw [decide_eq_true hk4, Bool.or_true, Bool.true_and] at hgi
            replace hgi := Lib.hid hgi
            clear hk4
            go_wp2_with fail
            obtain ⟨wo, rfl⟩ : ∃ wo, wo = wr := ⟨_, rfl⟩
            go_loopw [44] (fun x44 wq => ∃ k : Nat, k ≤ L ∧ x44 = .int .i64 k ∧ Below wo.heap.size wo wq ∧ Hid (∀ j (hj : j < l.length), j < k → l[j].1.size ≤ 32 ∧ (∀ q (hq : q + 1 = j), Op.bytesLess (l[q]'(by omega)).1.toList l[j].1.toList = true))) (fun x44 _ => L - (intOf x44).toNat)
            case atStart => exact ⟨0, Nat.zero_le _, rfl, Below.refl _ _, Lib.hid (fun j _ hj => by omega)⟩
            case round =>
              obtain ⟨k, hk, rfl, hbq, hpq⟩ := hrel
              by_cases hkn : k < L
              · have d5 : decide ((k : Int) < ((L : Nat) : Int)) = true := by simp; omega
                have hkl : k < l.length := by have := hL.out; omega
                obtain ⟨lb, loff, rfl, hlb, _⟩ := hP.addr (by omega)
                have hPq := hP.imp' (hbq.mono (Nat.le_trans hB hbw.size)) (Nat.le_refl _)
                obtain ⟨p0, p1⟩ := PrA.at hPq hkl
                obtain ⟨kk, hkk⟩ : ∃ kk, l[k].1 = kk := ⟨_, rfl⟩
                obtain ⟨kv, hkv⟩ : ∃ kv, l[k].2 = kv := ⟨_, rfl⟩
                rw [hkk] at p0
                rw [hkv] at p1
                have hlbq : lb < wr.heap.size := by have := hbw.size; have := hbq.size; omega
                have hnx : kk.size ≤ 32 → (∀ q (hq : q + 1 = k), Op.bytesLess (l[q]'(by omega)).1.toList kk.toList = true) → Hid (∀ j (hj : j < l.length), j < k + 1 → l[j].1.size ≤ 32 ∧ (∀ q (hq : q + 1 = j), Op.bytesLess (l[q]'(by omega)).1.toList l[j].1.toList = true)) := fun h1 h2 => Lib.hid (fun j hj hjk => by
                  by_cases e : j = k
                  · subst e
                    rw [hkk]
                    exact ⟨h1, h2⟩
                  · exact hpq.out j hj (by omega))
                replace hkv := Lib.hid hkv
                replace hnx := Lib.hid hnx
                by_cases hsz : 32 < kk.size
                · have d6 : decide ((32 : Int) < (kk.size : Int)) = true := by simp; omega
                  have hgf := hbad.out (by rw [hgi.out]; exact goodL_size hkl (by rw [hkk]; exact hsz))
                  have hfin := hbw.trans (hbq.mono hbw.size)
                  subst hgf
                  replace hkk := Lib.hid hkk
                  clear hbad hgi hpre2 hnx hpq hsz
                  go_wp2_with fail
                  go_quiet (fail)
                  go_wp2_with fail
                  go_ret
                  exact ⟨rfl, below_drewN (hfin.alloc hfin.size _) _⟩
                · have d6 : decide ((32 : Int) < (kk.size : Int)) = false := by simp; omega
                  cases k with
                  | zero =>
                    have hnx2 := hnx.out (by omega) (fun q hq => by omega)
                    replace hkk := Lib.hid hkk
                    clear hnx hpq hsz
                    simp only [Nat.zero_mul, Nat.add_zero] at p0 p1
                    rw [show ((0 : Nat) : Int) = 0 from rfl] at d5 ⊢
                    go_wp2_with fail
                    go_quiet (fail)
                    go_wp2_with fail
                    go_roundw
                    case rel => exact ⟨1, by omega, rfl, below_drewN (hbq.alloc hbq.size _) _, hnx2⟩
                    case measure => simp [intOf]; omega
                  | succ q =>
                    obtain ⟨pq0, pq1⟩ := PrA.at hPq (i := q) (by omega)
                    obtain ⟨pk, hpk⟩ : ∃ pk, (l[q]'(by omega)).1 = pk := ⟨_, rfl⟩
                    rw [hpk] at pq0
                    have d7 : decide ((0 : Int) < ((q + 1 : Nat) : Int)) = true := by simp <;> omega
                    cases hbl : Op.bytesLess pk.toList kk.toList with
                    | true =>
                      have hnx2 := hnx.out (by omega) (fun q2 hq2 => by
                        obtain rfl : q2 = q := by omega
                        rw [hpk]
                        exact hbl)
                      replace hkk := Lib.hid hkk
                      replace hpk := Lib.hid hpk
                      clear hnx hpq hsz pq1
                      go_wp2_with fail
                      go_quiet (fail)
                      go_wp2_with fail
                      go_roundw
                      case rel => exact ⟨q + 1 + 1, by omega, by go_num, below_drewN (hbq.alloc hbq.size _) _, hnx2⟩
                      case measure => simp [intOf]; omega
                    | false =>
                      have hgf := hbad.out (by rw [hgi.out]; exact goodL_ord hkl (by rw [hkk, hpk]; exact hbl))
                      have hfin := hbw.trans (hbq.mono hbw.size)
                      subst hgf
                      replace hkk := Lib.hid hkk
                      replace hpk := Lib.hid hpk
                      clear hbad hgi hpre2 hnx hpq hsz pq1
                      go_wp2_with fail
                      go_quiet (fail)
                      go_wp2_with fail
                      go_ret
                      exact ⟨rfl, below_drewN (hfin.alloc hfin.size _) _⟩
              · have d5 : decide ((k : Int) < ((L : Nat) : Int)) = false := by simp <;> omega
                have hlg : goodL l = true := goodL_true (fun j hj => hpq.out j hj (by have := hL.out; omega))
                have hpn := hpre2.out (by rw [hgi.out]; exact hlg)
                have hbn := hbr.trans (hbq.mono hbr.size)
                clear hpq hlg hpre2 hbad
                go_wp2_with fail
                go_roundw
                case rel => exact ⟨i + 1, by omega, by go_num, hbn, hpn⟩
                case measure => simp [intOf]; omega
          · have d3 : decide ((0 : Int) < (L : Int)) = true := by simp; omega
            have d4 : (o.fKind != 4) = true := by simp [hk4]
            rw [decide_eq_false hL0, decide_eq_false hk4, Bool.or_false, Bool.false_and] at hgi
            have hgf := hbad.out hgi
            subst hgf
            clear hgi hk4 hbad hpre2
            go_wp2_with fail
            go_ret
            exact ⟨rfl, hbw⟩
      · have d2 : decide ((i : Int) < (m : Int)) = false := by simp; omega
        have hgt : g = true := by rw [hg.out]; exact goodS_true hsn (fun j hj => hpre.out j (by have := hm.out; omega))
        subst hgt
        clear hpre
        go_wp2_with fail
        go_ret
        exact ⟨rfl, hbw⟩
  · have d0 : ((m : Int) != 0) = true := by simp; omega
    have d1 : ((m : Int) != (n : Int)) = true := by simp; omega
    have hgt : g = false := by rw [hg]; exact goodS_len (by omega) (by omega)
    subst hgt
    clear hg
    replace hn := Lib.hid hn
    replace hm := Lib.hid hm
    clear hx hs h0 h1
    go_enter Try.func17, Try.ntmps17
    go_wp2_with fail
    go_ret
    exact ⟨rfl, (by repeat (first | exact Below.refl _ _ | refine below_drewN ?_ _ | refine Below.drew ?_ | (refine Below.alloc ?_ (by simp; try omega) _)))⟩
end Go.Proofs.Ytbianedgogdeeaa
