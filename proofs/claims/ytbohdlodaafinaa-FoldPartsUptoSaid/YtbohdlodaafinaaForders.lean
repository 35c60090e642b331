/- FoldOrders: the walk. -/
import Derived.Test.YtbohdlodaafinaaFlaw1
import Derived.Test.YtbohdlodaafinaaBaseF
namespace Go.Proofs.Ytbohdlodaafinaa
open Go.RowKit Fold
set_option linter.unusedVariables false

def val (x : Nat) : Value := .int .u32 x
theorem info32 : (Try.prog.info? 22).map (fun i => (i.zero, i.size, i.bytes)) = some (some (.int .u32 0), 1, 4) := by kernel_rfl

/-- A part of an own row reads as the numbers there. -/
theorem UR.of_own {w : World} {base g n cap : Nat} {cur : List Nat} (h : w.ownsRow base 22 1 (.slice (some ⟨g, 0, none⟩) n cap) n (cur.map val)) (hlt : ∀ x ∈ cur, x < 4294967296) :
    n = cur.length ∧ UR w (g + 1) (some ⟨g, 0, none⟩) cap cur ∧ (∀ k, k ≤ n → UR w (g + 1) (some ⟨g, 0, none⟩) cap (cur.take k)) ∧ (∀ k, k ≤ n → k < cap → UR w (g + 1) (some ⟨g, k, none⟩) (cap - k) (cur.drop k)) ∧ n ≤ cap ∧ g < w.heap.size := by
  have hl := h.1
  simp only [List.length_map, Nat.mul_one] at hl
  have hc : ∀ k (hk : k < cur.length), w.cell? ⟨g, k, none⟩ = some (.int .u32 (cur[k] : Nat)) := by
    intro k hk
    rw [h.cellAt k (by omega)]
    simp [hk, val]
  obtain ⟨cs, hb, hnc, hcm, _, _, _⟩ := Blk.of_owns h
  refine ⟨hl.symm, ⟨by omega, hcm, by simp, fun _ => ⟨g, 0, rfl, by omega, fun k hk => by rw [Nat.zero_add]; exact hc k hk⟩, hlt⟩, fun k hk => ?_, fun k hk hkc => ?_, hnc, hb.lt⟩
  · refine ⟨by simp; omega, hcm, by simp, fun _ => ⟨g, 0, rfl, by omega, fun j hj => ?_⟩, fun x hx => hlt x (List.mem_of_mem_take hx)⟩
    have hj' : j < cur.length := by simp at hj; omega
    rw [Nat.zero_add, List.getElem_take]; exact hc j hj'
  · refine ⟨by simp; omega, by omega, by simp, fun _ => ⟨g, k, rfl, by omega, fun j hj => ?_⟩, fun x hx => hlt x (List.mem_of_mem_drop hx)⟩
    have hj' : k + j < cur.length := by simp at hj; omega
    rw [List.getElem_drop]; exact hc (k + j) hj'

theorem own_swap {w : World} {base g n cap : Nat} {cur : List Nat} (h : w.ownsRow base 22 1 (.slice (some ⟨g, 0, none⟩) n cap) n (cur.map val)) (x y : Nat) (hx : x < cur.length) (hy : y < cur.length) :
    ((w.setCell ⟨g, x, none⟩ (.int .u32 (cur[y] : Nat))).setCell ⟨g, y, none⟩ (.int .u32 (cur[x] : Nat))).ownsRow base 22 1 (.slice (some ⟨g, 0, none⟩) n cap) n (((cur.set x cur[y]).set y cur[x]).map val) := by
  have h1 := (h.stored x (.int .u32 (cur[y] : Nat))).1
  have h2 := (h1.stored y (.int .u32 (cur[x] : Nat))).1
  rw [List.map_set, List.map_set]
  exact h2

theorem allN_perm {w : Int} {a b : List Nat} (h : a.Perm b) : allN w a = allN w b ∧ allB w a = allB w b := by
  have h1 := allO_perm w h
  have h2 : a.isEmpty = b.isEmpty := by
    have := h.length_eq
    cases a <;> cases b <;> simp_all
  exact ⟨by simp only [allN, h1], by simp only [allB, h2]⟩

/-- What the two parts come to. -/
theorem parts (w : Int) (l : List Nat) (k : Nat) (hw : ¬ (w < 0 ∨ 6 < w)) (hl : l ≠ []) :
    (allB w (l.take k) = false → allN w (l.drop k) = allN w l) ∧ (allB w (l.drop k) = false → allN w (l.take k) = allN w l) ∧
    (allB w (l.take k) = true → allB w (l.drop k) = true → joinN w (allN w (l.take k)) (allN w (l.drop k)) = allN w l ∧ joinN w (allN w (l.drop k)) (allN w (l.take k)) = allN w l) := by
  have h := allO_append w (l.take k) (l.drop k)
  rw [List.take_append_drop] at h
  have e1 := allO_isSome w (l.take k)
  have e2 := allO_isSome w (l.drop k)
  simp only [allN, allB, if_neg hw, h]
  cases h1 : allO w (l.take k) with
  | none =>
    rw [h1] at e1
    simp only [Option.isSome_none] at e1
    refine ⟨fun _ => rfl, fun h2 => ?_, fun h3 => ?_⟩
    · rw [optJ]
      cases h2' : allO w (l.drop k) with
      | none => rfl
      | some v => rw [h2'] at e2; simp only [Option.isSome_some] at e2; rw [← e2] at h2; cases h2
    · rw [← e1] at h3; cases h3
  | some u =>
    rw [h1] at e1
    simp only [Option.isSome_some] at e1
    refine ⟨fun h3 => ?_, fun h3 => ?_, fun _ h3 => ?_⟩
    · rw [← e1] at h3; cases h3
    · cases h2' : allO w (l.drop k) with
      | none => rfl
      | some v => rw [h2'] at e2; simp only [Option.isSome_some] at e2; rw [← e2] at h3; cases h3
    · cases h2' : allO w (l.drop k) with
      | none => rw [h2'] at e2; simp only [Option.isSome_none] at e2; rw [← e2] at h3; cases h3
      | some v => exact ⟨rfl, joinN_comm w v u⟩

theorem allO_lt (w : Int) (l : List Nat) (h : ∀ x ∈ l, x < 4294967296) : (allO w l).getD 0 < 4294967296 := by
  induction l with
  | nil => simp [allO]
  | cons v r ih =>
    have ih := ih (fun x hx => h x (by simp [hx]))
    have hv := startN_lt w v (h v (by simp))
    simp only [allO]
    cases hr : allO w r with
    | none => exact hv
    | some u =>
      rw [hr] at ih
      exact joinN_lt w _ _ hv ih
theorem allN_lt (w : Int) (l : List Nat) (h : ∀ x ∈ l, x < 4294967296) : allN w l < 4294967296 := by
  unfold allN
  split
  · omega
  · exact allO_lt w l h

/-- All of it, for the append. -/
theorem UR.news {w : World} {B : Nat} {ao : Option Addr} {cap : Nat} {l : List Nat} (h : UR w B ao cap l) : ∀ ad, ao = some ad → ∀ j u, (l.map val)[j]? = some u → w.cell? (ad.add j) = some u := by
  intro ad e j u hu
  have hj : j < l.length := by simpa using (List.getElem?_eq_some_iff.1 hu).1
  obtain ⟨b, off, e', _, hc⟩ := h.cells (fun e => by simp [e] at hj)
  rw [e] at e'
  simp only [Option.some.injEq] at e'
  subst e'
  have := hc j hj
  rw [List.getElem?_map, List.getElem?_eq_getElem hj] at hu
  simp only [Option.map_some, Option.some.injEq] at hu
  rw [← hu]
  unfold Addr.add
  split
  · rename_i h0; subst h0; exact this
  · exact this
theorem UR.nil0 {w : World} {B : Nat} {ao : Option Addr} {cap : Nat} {l : List Nat} (h : UR w B ao cap l) : ao = none → l.length = 0 ∧ cap = 0 := by
  intro e
  have h1 := h.nil e
  have h2 := h.le
  omega
theorem val_one (l : List Nat) : ∀ u ∈ l.map val, u.oneCell' = true := by
  intro u hu
  obtain ⟨x, _, rfl⟩ := List.mem_map.1 hu
  rfl

theorem u64_in {a : Int} (h0 : 0 ≤ a) (h1 : a < 18446744073709551616) : IntKind.u64.wrap a = a := by
  have : IntKind.u64.wrap a = a % 18446744073709551616 := rfl
  rw [this, Int.emod_eq_of_lt h0 h1]
theorem plus1 (n : Nat) (hn : n ≤ 35184372087808) : wrap64 ((n : Int) + 1) = n + 1 := IntWalk.wrap64_in _ ⟨by omega, by omega⟩
theorem uplus1 (n : Nat) (hn : n ≤ 35184372087808) : IntKind.u64.wrap ((n : Int) + 1) = n + 1 := u64_in (by omega) (by omega)
theorem wrapn (r n : Nat) (hr : r ≤ n) (hn : n ≤ 35184372087808) : wrap64 (r : Int) = r := IntWalk.wrap64_in _ ⟨by omega, by omega⟩
theorem cast1 {n r : Nat} {t : Int} (hr : (IntKind.u64.wrap t).tmod ((n + 1 : Nat) : Int) = r) : (IntKind.u64.wrap t).tmod ((n : Int) + 1) = r := by
  rw [Int.natCast_add, Int.natCast_one] at hr
  exact hr
theorem tmod_u64 (a : Int) (m : Nat) (hm : 0 < m) : ∃ r : Nat, r < m ∧ (IntKind.u64.wrap a).tmod m = r := by
  have h0 : 0 ≤ IntKind.u64.wrap a := by
    have : IntKind.u64.wrap a = a % 18446744073709551616 := rfl
    rw [this]
    exact Int.emod_nonneg _ (by decide)
  refine ⟨((IntKind.u64.wrap a).tmod m).toNat, ?_, ?_⟩
  · have h1 := Int.tmod_lt_of_pos (IntKind.u64.wrap a) (show (0 : Int) < m by omega)
    have h2 := Int.tmod_nonneg (m : Int) h0
    omega
  · have h2 := Int.tmod_nonneg (m : Int) h0
    omega
theorem tmodP (t : Int) (n : Nat) (hn : n ≤ 35184372087808) : ∃ (r : Nat) (T : Int), r ≤ n ∧ Hid (IntKind.u64.wrap t = T) ∧ T.tmod ((n : Int) + 1) = r ∧ wrap64 (r : Int) = r := by
  obtain ⟨r, hr1, hr⟩ := tmod_u64 t (n + 1) (Nat.succ_pos n)
  have hrn := Nat.le_of_lt_succ hr1
  exact ⟨r, _, hrn, Lib.hid rfl, cast1 hr, wrapn r n hrn hn⟩

/-- The copy is a permutation of what came in; where it lies. -/
def CopyAt (W wr : World) (l : List Nat) (g n cap : Nat) (cur : List Nat) : Prop :=
  wr.ownsRow W.heap.size 22 1 (.slice (some ⟨g, 0, none⟩) n cap) n (cur.map val) ∧ cur.Perm l ∧ Below W.heap.size W wr

theorem CopyAt.cells {W wr : World} {l : List Nat} {g n cap : Nat} {cur : List Nat} (h : CopyAt W wr l g n cap cur) : n = cur.length ∧ W.heap.size ≤ g ∧ (∀ k (hk : k < cur.length), wr.cell? ⟨g, k, none⟩ = some (.int .u32 (cur[k] : Nat))) ∧ ∀ k, wr.frozen? ⟨g, k, none⟩ = false := by
  obtain ⟨h1, _, _⟩ := h
  have hl := h1.1
  simp only [List.length_map, Nat.mul_one] at hl
  refine ⟨hl.symm, (h1.lt g rfl).1, fun k hk => ?_, fun k => h1.frozenAt k⟩
  rw [h1.cellAt k (by omega)]
  simp [hk, val]

theorem CopyAt.swap {W wr : World} {l : List Nat} {g n cap : Nat} {cur : List Nat} (h : CopyAt W wr l g n cap cur) (x y : Nat) (hx : x < cur.length) (hy : y < cur.length) :
    CopyAt W ((wr.setCell ⟨g, x, none⟩ (.int .u32 (cur[y] : Nat))).setCell ⟨g, y, none⟩ (.int .u32 (cur[x] : Nat))) l g n cap ((cur.set x cur[y]).set y cur[x]) := by
  obtain ⟨h1, h2, h3⟩ := h
  have hb := (h1.lt g rfl).1
  exact ⟨own_swap h1 x y hx hy, (List.set_set_perm hx hy).trans h2, (h3.setCell (p := ⟨g, x, none⟩) hb _).setCell (p := ⟨g, y, none⟩) hb _⟩

set_option maxHeartbeats 1000000 in
theorem orders_walk (w : Int) (l : List Nat) (ao : Option Addr) (cap : Nat) (ts : List Int) (ta : Option Addr) (tc : Nat) (W : World) (h : UR W W.heap.size ao cap l) (ht : SlA W.heap.size 1 (RI .i64) W ta tc ts) (hreach : l.length * 4 ≤ 140737488351232) :
    Calls Try.prog 5 #[.int .i64 w, .slice ao l.length cap, .slice ta ts.length tc] W fun e W' => e = .returned (.bool true) ∧ Below W.heap.size W W' := by
  have htl := ht.len
  obtain ⟨i0, hi, hz0, hz1, hz2⟩ := info_parts info32
  obtain ⟨tl, htl'⟩ : ∃ tl, tl = ts.length := ⟨_, rfl⟩
  rw [← htl'] at htl ⊢
  have hturn : ∀ (wx : World), Below W.heap.size W wx → ∀ k, k < tl → ∃ (t : Int) (bt ot : Nat), ta = some ⟨bt, ot, none⟩ ∧ bt < W.heap.size ∧ wx.cell? ⟨bt, ot + k, none⟩ = some (.int .i64 t) := by
    intro wx hb k hk
    obtain ⟨bt, ot, e, hbt, h5⟩ := ht.addr (by omega)
    obtain ⟨cs, _, h6, rfl, _⟩ := h5 k (by omega)
    have h7 := h6 0 (by omega)
    rw [Nat.mul_one, Nat.add_zero] at h7
    exact ⟨ts[k], bt, ot, e, hbt, (hb.cell (p := ⟨bt, _, none⟩) hbt).trans h7⟩
  clear ht
  replace htl' := Lib.hid htl'
  obtain ⟨n, hn⟩ : ∃ n, n = l.length := ⟨_, rfl⟩
  have hall := fun W' (h' : UR W' W.heap.size ao cap l) => all_any w l ao cap _ W' h'
  have hone := val_one l
  have hnews := fun W' (h' : UR W' W.heap.size ao cap l) => h'.news
  have hnil := h.nil0
  have hln : (l.map val).length = n * 1 := by simp [hn]
  rw [← hn] at hreach hall hnil ⊢
  replace hn := Lib.hid hn
  replace hln := Lib.hid hln
  obtain ⟨a, ha⟩ : ∃ a, a = allN w l := ⟨_, rfl⟩
  obtain ⟨ok, hok⟩ : ∃ ok, ok = allB w l := ⟨_, rfl⟩
  rw [← ha, ← hok] at hall
  replace ha := Lib.hid ha
  replace hok := Lib.hid hok
  go_enter Try.func5, Try.ntmps5
  go_wp2_with fail
  refine (known_any W).mono ?_
  rintro e w1 ⟨rfl, b1⟩
  have h1 := h.below b1
  go_wp2_with fail
  refine (hall w1 h1).mono ?_
  rintro e w1' ⟨rfl, rfl⟩
  have hown : (w1.alloc (.cells #[] 22)).ownsRow W.heap.size 22 1 (.slice (some ⟨w1.heap.size, 0, none⟩) 0 0) 0 [] := World.ownsRow_lit w1 #[] 0 b1.size (by unfold maxLen; omega) rfl
  have hnw := hnews _ (h1.below ((Below.refl W.heap.size w1).alloc b1.size (.cells #[] 22)))
  clear hall hnews
  replace hnw := Lib.hid hnw
  replace hone := Lib.hid hone
  replace hnil := Lib.hid hnil
  replace hown := Lib.hid hown
  set_option maxRecDepth 100000 in
  go_wp2_with (at_builtin; (refine wpList_append_any rfl _ _ 30 rfl W.heap.size 22 i0 (.int .u32 0) 1 4 Try.underlying30 hi hz0 hz1 hz2 rfl (by decide) (.slice (some ⟨w1.heap.size, 0, none⟩) 0 0) 0 [] rfl hown.out ao n cap (l.map val) rfl hln.out hnil.out hnw.out hone.out ?h63 ?hby ?hbs ?next))
  case h63 => unfold maxLen; omega
  case hby => omega
  case hbs => have := b1.size; simp; omega
  case next =>
  intro v2 w2 hown2 hg2 hne2
  have b2 : Below W.heap.size W w2 := Below.grown (b1.alloc b1.size _) hg2 (by have := b1.size; simp; omega) (fun j hj => by cases hj; exact b1.size)
  obtain ⟨g, cap2, rfl⟩ := hown2.shape hne2
  have hcp : CopyAt W w2 l g n cap2 l := ⟨hown2, List.Perm.refl _, b2⟩
  have hn0 : n ≤ 35184372087808 := by omega
  clear hown hnw hone hnil hown2 hg2 hne2 hln
  replace hturn := Lib.hid hturn
  go_wp2_with fail
  go_loopw [10] (fun i wr => ∃ (k : Nat) (cur : List Nat), k ≤ tl ∧ i = .int .i64 k ∧ CopyAt W wr l g n cap2 cur) (fun i _ => tl + 1 - (intOf i).toNat)
  case atStart => exact ⟨0, l, by omega, rfl, hcp⟩
  case round =>
    obtain ⟨k, cur, hk, rfl, hc⟩ := hrel
    clear hcp b2
    have hc' := hc
    replace hc := Lib.hid hc
    obtain ⟨hcn, hgw, hcell, hfro⟩ := hc'.cells
    replace hfro := Lib.hid hfro
    replace hcell := Lib.hid hcell
    replace hcn := Lib.hid hcn
    by_cases hstep : k < tl ∧ 0 < n
    · obtain ⟨hkt, hn1⟩ := hstep
      obtain ⟨t, bt, ot, hta, hbt, htc⟩ : ∃ (t : Int) (bt ot : Nat), ta = some ⟨bt, ot, none⟩ ∧ bt < W.heap.size ∧ wr.cell? ⟨bt, ot + k, none⟩ = some (.int .i64 t) := hturn.out wr hc'.2.2 k hkt
      clear hturn
      obtain ⟨r, hr1, hr⟩ := tmod_u64 t n hn1
      subst hta
      have hwn : IntKind.u64.wrap (n : Int) = n := u64_in (by omega) (by omega)
      obtain ⟨y, hy1, hy⟩ : ∃ y : Nat, y < n ∧ (k : Int).tmod n = y := ⟨k % n, Nat.mod_lt _ hn1, by rw [Int.tmod_eq_emod_of_nonneg (by omega)]; omega⟩
      have hcr := hcell.out r (by rw [← hcn.out]; exact hr1)
      have hcy := hcell.out y (by rw [← hcn.out]; exact hy1)
      obtain ⟨vx, hvx⟩ : ∃ vx, vx = cur[r]'(by rw [← hcn.out]; exact hr1) := ⟨_, rfl⟩
      obtain ⟨vy, hvy⟩ : ∃ vy, vy = cur[y]'(by rw [← hcn.out]; exact hy1) := ⟨_, rfl⟩
      rw [← hvx] at hcr
      rw [← hvy] at hcy
      have hfr := hfro.out r
      have hfy := hfro.out y
      replace hvx := Lib.hid hvx
      replace hvy := Lib.hid hvy
      obtain ⟨vq, hcs⟩ := cell?_setCell_some (p := ⟨g, r, none⟩) (x := .int .u32 (vy : Int)) hcy
      go_wp2_with fail
      go_roundw
      case rel =>
        refine ⟨k + 1, (cur.set r vy).set y vx, by omega, by go_num, ?_⟩
        have h9 := hc.out.swap r y (by rw [← hcn.out]; exact hr1) (by rw [← hcn.out]; exact hy1)
        rw [← hvx.out, ← hvy.out] at h9
        exact h9
      case measure => simp [intOf]; omega
    · have hends : CopyAt W wr l g n cap2 cur ∧ cur.length = n := ⟨hc.out, hcn.out.symm⟩
      replace hends := Lib.hid hends
      clear hc' hc hcell hfro hcn
      obtain ⟨hxx, hUR, hUt, hUd, hncap, hgw2⟩ := UR.of_own hends.out.1.1 (fun x hx => h.lt x (hends.out.1.2.1.mem_iff.1 hx))
      have hall2 := all_any w cur (some ⟨g, 0, none⟩) cap2 _ wr hUR
      obtain ⟨hpn, hpb⟩ := allN_perm (w := w) hends.out.1.2.1
      rw [hpn, hpb, ← ha.out, ← hok.out, hends.out.2] at hall2
      clear hUR hxx
      replace hUt := Lib.hid hUt
      replace hUd := Lib.hid hUd
      have hb3 : Below W.heap.size W wr := hends.out.1.2.2
      by_cases hn1 : 0 < n
      · have hkt : k = tl := by omega
        subst hkt
        clear hk
        obtain ⟨pk, hpk⟩ : ∃ pk : Bool, pk = ok := ⟨_, rfl⟩
        go_wp2_with fail
        refine hall2.mono ?_
        rintro e w1' ⟨rfl, rfl⟩
        by_cases hok1 : ok = true
        · subst hok1
          by_cases hk0 : 0 < k
          · have hkk : ((k : Int) == 0) = false := by simp; omega
            obtain ⟨t, bt, ot, hta, hbt, htc⟩ := hturn.out wr hb3 0 hk0
            rw [Nat.add_zero] at htc
            obtain ⟨r, T, hrn, hT, hr, hwr⟩ := tmodP t n hn0
            subst hta
            clear hturn hpb hpk
            replace hpn := Lib.hid hpn
            have hT' := hT.out
            clear hT hwr
            go_wp2_with fail
            have hlt2 : ∀ x ∈ cur, x < 4294967296 := fun x hx => h.lt x (hends.out.1.2.1.mem_iff.1 hx)
            have hcl := hends.out.2
            have htk := hUt.out r hrn
            have e1 := all_any w (cur.take r) _ cap2 _ wr htk
            have e1l : (cur.take r).length = r := by rw [List.length_take]; omega
            rw [e1l] at e1
            refine e1.mono ?_
            rintro e w1' ⟨rfl, rfl⟩
            clear e1 e1l htk hcl
            have hgood : ¬ (w < 0 ∨ 6 < w) := fun hb => by have := hok.out; rw [(allN_bad hb).2] at this; cases this
            have hlne : cur ≠ [] := fun e => by have := hends.out.2; rw [e] at this; simp at this; omega
            obtain ⟨hq1, hq2, hq3⟩ := parts w cur r hgood hlne
            rw [hpn.out, ← ha.out] at hq1 hq2 hq3
            have hu1l := allN_lt w (cur.take r) (fun x hx => hlt2 x (List.mem_of_mem_take hx))
            have hu2l := allN_lt w (cur.drop r) (fun x hx => hlt2 x (List.mem_of_mem_drop hx))
            clear hpn hlt2
            obtain ⟨ad, hrc, e2⟩ : ∃ ad : Addr, ((r = cap2 ∧ ad = ⟨g, 0, none⟩) ∨ (r < cap2 ∧ ad = ⟨g, r, none⟩)) ∧ Calls Try.prog 16 #[.int .i64 w, .slice (some ad) (n - r) (cap2 - r)] wr fun e W' => e = .returned (.tuple #[.int .u32 (allN w (cur.drop r) : Nat), .bool (allB w (cur.drop r))]) ∧ wr = W' := by
              by_cases hrc : r = cap2
              · have hdn : cur.drop r = [] := List.drop_eq_nil_of_le (by rw [hends.out.2]; omega)
                have e2 := all_any w [] (some ⟨g, 0, none⟩) 0 (g + 1) wr ⟨by simp, by unfold maxLen; omega, by simp, by simp, by simp⟩
                rw [hdn, show n - r = 0 by omega, show cap2 - r = 0 by omega]
                exact ⟨⟨g, 0, none⟩, .inl ⟨hrc, rfl⟩, e2⟩
              · have hrc2 : r < cap2 := by omega
                have e2 := all_any w (cur.drop r) _ (cap2 - r) _ wr (hUd.out r hrn hrc2)
                have e2l : (cur.drop r).length = n - r := by rw [List.length_drop, hends.out.2]
                rw [e2l] at e2
                exact ⟨⟨g, r, none⟩, .inr ⟨hrc2, rfl⟩, e2⟩
            clear hends hUd hUt
            obtain ⟨u1, hu1⟩ : ∃ u1, u1 = allN w (cur.take r) := ⟨_, rfl⟩
            obtain ⟨p1, hp1⟩ : ∃ p1, p1 = allB w (cur.take r) := ⟨_, rfl⟩
            obtain ⟨u2, hu2⟩ : ∃ u2, u2 = allN w (cur.drop r) := ⟨_, rfl⟩
            obtain ⟨p2, hp2⟩ : ∃ p2, p2 = allB w (cur.drop r) := ⟨_, rfl⟩
            rw [← hu1, ← hp1]
            rw [← hu2, ← hp2] at e2
            rw [← hu1] at hu1l hq2 hq3
            rw [← hu2] at hu2l hq1 hq3
            rw [← hp1] at hq1 hq3
            rw [← hp2] at hq2 hq3
            clear hu1 hu2 hp1 hp2
            have hq : (p1 = false ∧ u2 = a) ∨ (p1 = true ∧ p2 = false ∧ u1 = a) ∨ (p1 = true ∧ p2 = true ∧ joinN w u1 u2 = a ∧ joinN w u2 u1 = a) := by
              cases p1
              · exact .inl ⟨rfl, hq1 rfl⟩
              · cases p2
                · exact .inr (.inl ⟨rfl, rfl, hq2 rfl⟩)
                · exact .inr (.inr ⟨rfl, rfl, (hq3 rfl rfl).1, (hq3 rfl rfl).2⟩)
            clear hq1 hq2 hq3
            rcases hrc with ⟨hrc, rfl⟩ | ⟨hrc, rfl⟩
            · obtain rfl : n = r := by omega
              obtain rfl : cap2 = n := hrc.symm
              simp only [Nat.sub_self] at e2
              go_wp2_with fail
              refine e2.mono ?_
              rintro e w1' ⟨rfl, rfl⟩
              clear e2
              rcases hq with ⟨rfl, rfl⟩ | ⟨rfl, rfl, rfl⟩ | ⟨rfl, rfl, hj1, hj2⟩
              · go_wp2_with fail
                go_ret
                exact ⟨rfl, hb3⟩
              · go_wp2_with fail
                go_ret
                exact ⟨rfl, hb3⟩
              · have hjj := Lib.hid (And.intro hj1 hj2)
                clear hj1 hj2
                go_wp2_with fail
                refine (join_any w u1 u2 wr hu1l hu2l).mono ?_
                rintro e w1' ⟨rfl, rfl⟩
                rw [hjj.out.1]
                go_wp2_with fail
                refine (join_any w u2 u1 wr hu2l hu1l).mono ?_
                rintro e w1' ⟨rfl, rfl⟩
                rw [hjj.out.2]
                go_wp2_with fail
                go_ret
                exact ⟨rfl, hb3⟩
            · go_wp2_with fail
              refine e2.mono ?_
              rintro e w1' ⟨rfl, rfl⟩
              clear e2
              rcases hq with ⟨rfl, rfl⟩ | ⟨rfl, rfl, rfl⟩ | ⟨rfl, rfl, hj1, hj2⟩
              · go_wp2_with fail
                go_ret
                exact ⟨rfl, hb3⟩
              · go_wp2_with fail
                go_ret
                exact ⟨rfl, hb3⟩
              · have hjj := Lib.hid (And.intro hj1 hj2)
                clear hj1 hj2
                go_wp2_with fail
                refine (join_any w u1 u2 wr hu1l hu2l).mono ?_
                rintro e w1' ⟨rfl, rfl⟩
                rw [hjj.out.1]
                go_wp2_with fail
                refine (join_any w u2 u1 wr hu2l hu1l).mono ?_
                rintro e w1' ⟨rfl, rfl⟩
                rw [hjj.out.2]
                go_wp2_with fail
                go_ret
                exact ⟨rfl, hb3⟩
          · obtain rfl : k = 0 := by omega
            clear hturn
            go_wp2_with fail
            go_ret
            exact ⟨rfl, hb3⟩
        · obtain rfl : ok = false := by simpa using hok1
          clear hturn hok1
          go_wp2_with fail
          go_ret
          exact ⟨rfl, hb3⟩
      · have hokf : ok = false := by
          rw [hok.out]
          have : l = [] := by have := hn.out; exact List.length_eq_zero_iff.1 (by omega)
          rw [this]; exact (allN_nil w).2
        obtain rfl : n = 0 := by omega
        subst hokf
        by_cases hkt : k < tl
        · go_wp2_with fail
          refine hall2.mono ?_
          rintro e w1' ⟨rfl, rfl⟩
          go_wp2_with fail
          go_ret
          exact ⟨rfl, hb3⟩
        · go_wp2_with fail
          refine hall2.mono ?_
          rintro e w1' ⟨rfl, rfl⟩
          go_wp2_with fail
          go_ret
          exact ⟨rfl, hb3⟩

theorem orders_row {w : World} (a0 : Int) (w0 : (Lit.int .i64 a0).wf = true) (ao : Option Addr) (len cap : Nat) (xs : List Int) (hx : RSl w.heap.size 1 (RI .u32) w (Value.cells (.slice ao len cap)).toList xs) (hz : cap * 4 ≤ reachBytes)
    (ta : Option Addr) (tl tc : Nat) (ts : List Int) (ht : RSl w.heap.size 1 (RI .i64) w (Value.cells (.slice ta tl tc)).toList ts) (hz2 : tc * 8 ≤ reachBytes) :
    Calls Try.prog 5 #[.int .i64 a0, .slice ao len cap, .slice ta tl tc] w fun e w' => e = .returned (.bool true) ∧ Below w.heap.size w w' := by
  obtain ⟨l, rfl, h⟩ := ur_arg hx
  obtain ⟨ta', tc', h1, h2⟩ := ht
  simp only [Value.cells, List.cons.injEq, Value.slice.injEq, and_true] at h1
  obtain ⟨rfl, rfl, rfl⟩ := h1
  have hl := h.le
  have hr : reachBytes = 140737488351232 := rfl
  exact orders_walk a0 l ao cap ts ta tc w h h2 (by omega)
end Go.Proofs.Ytbohdlodaafinaa
