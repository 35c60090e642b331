/- Progress: the order of Updates: the walk of ProgressOrders. -/
import Derived.Test.YtbholbjegfnpdaaPu
import Derived.Test.YtbholbjegfnpdaaPo
namespace Go.Proofs.Ytbholbjegfnpdaa
open Go.RowKit Go.Shelf Go.Maps
attribute [local go_sem] Oper.semAt_some
set_option linter.unusedVariables false
set_option linter.unusedSimpArgs false

theorem chg_cut {B : Nat} {S : Nat → Prop} {w0 w w' : World} (h : Below B w0 w) (hB : w0.heap.size ≤ B) (hc : Chg S w w') : ∃ v, v.heap.size = w0.heap.size ∧ Chg S w0 v ∧ Below w0.heap.size v w' := by
  have hs : w0.heap.size ≤ w'.heap.size := Nat.le_trans h.size hc.size
  refine ⟨{ w' with heap := w'.heap.extract 0 w0.heap.size }, by simp; omega, ⟨hc.os.trans h.os, hc.tape.trans h.tape, hc.output.trans h.output, by simp; omega, fun i hi hn => ?_⟩, ⟨rfl, rfl, rfl, by simp; omega, fun i hi => ?_⟩⟩
  · have h1 := h.block i (by omega)
    have h2 := hc.block i (Nat.lt_of_lt_of_le hi h.size) hn
    rw [← h1, ← h2]
    simp only [Array.getElem?_extract]
    rw [if_pos (by omega)]
    simp
  · simp only [Array.getElem?_extract]
    rw [if_pos (by omega)]
    simp
/-- What lies below a tracker changes. -/
theorem Tr.chgL {w w' : World} {base tb : Nat} {x : TrX} {ops : List TOp} {cs : List (TStamp × Int)} (h : Tr w base tb x ops cs) {S : Nat → Prop} (hc : Chg S w w') (hS : ∀ k, S k → k < base) : Tr w' base tb x ops cs := by
  obtain ⟨w0, h1, h2, h3, h4, h5⟩ := h.held
  obtain ⟨v, hv1, hv2, hv3⟩ := chg_cut h5 (Nat.le_refl _) hc
  have hn : ∀ b, base ≤ b → ¬ S b := fun b hb hs => by have := hS b hs; omega
  refine ⟨h.blk.chg hc (hn _ h.btb), ⟨v, h1.chg hv2 hn, ⟨h2.hdr.chg hv2 (hn _ h2.hbase), h2.len, h2.hbase, fun j hj => ?_, h2.nodup⟩, by omega, by omega, by rw [← hv1] at hv3; exact hv3⟩, h.opsE, h.map.chg hc (hn _ h.bmb), h.nz, h.good, h.ok, h.btb, h.bmb⟩
  obtain ⟨e1, e2, e3⟩ := h2.rows j hj
  exact ⟨e1, e2, e3.chg hv2 (hn _ e1)⟩
theorem tot_range {ops : List TOp} (s : TStamp) : ∀ {l : List TCount}, l.all (okC ops) = true → -2147483648 * (l.length : Int) ≤ totC l s ∧ totC l s ≤ 2147483648 * (l.length : Int)
  | [], _ => by simp [totC]
  | c :: l, h => by
    rw [List.all_cons, Bool.and_eq_true] at h
    obtain ⟨h1, h2⟩ := tot_range s h.2
    have h3 := h.1
    unfold okC at h3
    simp only [Bool.and_eq_true, decide_eq_true_eq] at h3
    rw [totC_cons, List.length_cons]
    split <;> omega
theorem tot_small {ops : List TOp} (s : TStamp) {l : List TCount} (h : l.all (okC ops) = true) (hl : l.length ≤ 100) : wrap64 (totC l s) = totC l s ∧ -214748364800 ≤ totC l s ∧ totC l s ≤ 214748364800 := by
  have := tot_range (ops := ops) s h
  exact ⟨IntWalk.wrap64_in _ (by omega), by omega, by omega⟩
theorem totC_append (a b : List TCount) (s : TStamp) : totC (a ++ b) s = totC a s + totC b s := by
  unfold totC
  rw [List.map_append, List.sum_append]
theorem upd_small {ops : List TOp} {cs : List (TStamp × Int)} {l : List TCount} (h : l.all (okC ops) = true) (hl : l.length ≤ 100) (hcs : ∀ s, -214748364800 ≤ cntC cs s ∧ cntC cs s ≤ 214748364800) : updE ops cs l = 0 := by
  unfold updE
  rw [if_neg (by rw [h]; simp), if_pos]
  intro p hp
  unfold passC
  have h1 := tot_range (ops := ops) p.1 h
  have h2 := hcs p.1
  rw [nxL_val hp, wrap_add']
  rw [show wrap64 (cntC cs p.1 + totC l p.1) = cntC cs p.1 + totC l p.1 from IntWalk.wrap64_in _ (by omega)]
  omega
theorem IsAll.congr {cs cs' : List (TStamp × Int)} {L : List TCount} (h : IsAll cs L) (hn : (cs.map Prod.fst).Nodup) (hn' : (cs'.map Prod.fst).Nodup) (hz : ∀ p ∈ cs, p.2 ≠ 0 ∧ -4611686018427387904 ≤ p.2 ∧ p.2 ≤ 4611686018427387904) (hz' : ∀ p ∈ cs', p.2 ≠ 0 ∧ -4611686018427387904 ≤ p.2 ∧ p.2 ≤ 4611686018427387904)
    (he : ∀ s, cntC cs' s = cntC cs s) : IsAll cs' L := by
  refine ⟨h.perm.trans ((List.perm_ext_iff_of_nodup hn hn').2 (fun s => ?_)), h.sort, fun c hc => by rw [he]; exact h.val c hc⟩
  rw [key_iff hn hz, key_iff hn' hz', he]
set_option maxRecDepth 100000 in
set_option maxHeartbeats 4000000 in
theorem porders_no (ops : List TOp) (cap : Nat) (ao : Option Addr) (v1 v2 : Value) (w : World) (hx : SlA w.heap.size 7 (ROp w.heap.size) w ao cap ops) (hok : (gcheck ops).2 ≠ 0) :
    Calls Try.prog 6 #[.agg #[.slice ao ops.length cap], v1, v2] w fun e w' => e = .returned (.bool true) ∧ Below w.heap.size w w' := by
  have hN := fun W hb => new_no ops cap ao W (imp_ops2 hx hb) hok
  obtain ⟨n, hn⟩ : ∃ n, n = ops.length := ⟨_, rfl⟩
  rw [← hn] at hN ⊢
  replace hN := Lib.hid hN
  clear hn hx hok
  refine calls_of_marks Try.func6 rfl ?_
  simp only [Try.ntmps6, List.size_toArray, List.length_cons, List.length_nil, Nat.reduceAdd, Nat.reduceSub, Array.replicate_succ, Array.replicate_zero, List.push_toArray, List.append_toArray, List.nil_append, List.cons_append]
  go_wp2_with fail
  refine (pknown_any _).mono ?_
  rintro e w1 ⟨rfl, hb1⟩
  have hd1 : Hd [(w.heap.size, .slice ao n cap, 24)] w1 := ((Hd.nil w).alloc (.slice ao n cap) 24).below hb1 (Nat.le_refl _)
  have hbel : Below w.heap.size w w1 := ((Below.refl w.heap.size w).alloc (Nat.le_refl _) (.cells #[.slice ao n cap] 24)).trans (hb1.mono (by simp))
  clear hb1
  have cg := hd1.cell (b := w.heap.size) (v := .slice ao n cap) (T := 24) (by simp)
  dsimp only
  go_wp2_with fail
  refine (hN.out _ hbel).mono ?_
  rintro e w2 ⟨rfl, hb2⟩
  have hd2 := hd1.below hb2 (Nat.le_refl _)
  have hbel2 := hbel.trans (hb2.mono hbel.size)
  clear cg hd1 hbel
  have cg := hd2.cell (b := w.heap.size) (v := .slice ao n cap) (T := 24) (by simp)
  dsimp only
  go_wp2_with fail
  refine (hN.out _ hbel2).mono ?_
  rintro e w3 ⟨rfl, hb3⟩
  have hbel3 := hbel2.trans (hb3.mono hbel2.size)
  dsimp only
  go_wp2_with fail
  refine leavesM_marks [] _ trivial hbel3.size (fun w' hs => ?_)
  exact ⟨.bool true, by simp [results, Try.results6, go_sem], rfl, hbel3.trans hs.below⟩

/-- Between two rounds: the model's list so far. -/
def OrI (w5 w7 : World) (mk : Nat) (gv : Value) {cs : List (TStamp × Int)} (pre : List (CountOf cs)) (W : World) : Prop :=
  ∃ v, Blk W mk #[gv, v] 59 ∧ OwnL encK W w7.heap.size 40 4 v (pre.map (·.1)) ∧ Blk W (mk + 1) #[.pointer (some ⟨mk, 0, none⟩)] 57 ∧ Below w5.heap.size w5 W ∧ w7.heap.size ≤ W.heap.size

set_option maxRecDepth 100000 in
set_option maxHeartbeats 4000000 in
theorem porders_ok (ops : List TOp) (cap : Nat) (ao : Option Addr) (l : List TCount) (lad : Addr) (lc : Nat) (q : Int) (w : World) (hx : SlA w.heap.size 7 (ROp w.heap.size) w ao cap ops) (hok : (gcheck ops).2 = 0) (hzi : ∀ o ∈ ops, o.fIn.length * 8 ≤ 140737488355328)
    (hl : SlA w.heap.size 4 (RCount w.heap.size) w (some lad) lc l) :
    Calls Try.prog 6 #[.agg #[.slice ao ops.length cap], .slice (some lad) l.length lc, .int .i64 q] w fun e w' => e = .returned (.bool true) ∧ Below w.heap.size w w' := by
  obtain ⟨jK, hiK, hK0, hK1, hK2⟩ := info_parts infoK
  have hN := fun W hb => new_ok ops ao cap W (imp_ops2 hx hb) hok hzi
  obtain ⟨n, hn⟩ : ∃ n, n = ops.length := ⟨_, rfl⟩
  rw [← hn] at hN ⊢
  obtain ⟨m, hm⟩ : ∃ m, m = l.length := ⟨_, rfl⟩
  have hml := hl.len
  have hmc := hl.1
  have hlc : lc ≤ 9223372036854775807 := hl.2.1
  rw [← hm] at hml hmc ⊢
  obtain ⟨m', hm'⟩ : ∃ m', m' = min m 100 := ⟨_, rfl⟩
  obtain ⟨L, hL⟩ : ∃ L, L = l.take 100 := ⟨_, rfl⟩
  have hLl : L.length = m' := by rw [hL, List.length_take, hm', hm]; omega
  have hsl : SlA w.heap.size 4 (RCount w.heap.size) w (some lad) lc L := by rw [hL]; exact sla_take hl 100
  have hm1 : m' ≤ 100 := by omega
  have hcase : (m ≤ 100 ∧ m' = m) ∨ (100 < m ∧ m' = 100) := by omega
  have hmm : m' ≤ lc := by omega
  replace hcase := Lib.hid hcase
  replace hLl := Lib.hid hLl
  replace hN := Lib.hid hN
  replace hn := Lib.hid hn
  clear hm hm' hL hl
  refine calls_of_marks Try.func6 rfl ?_
  simp only [Try.ntmps6, List.size_toArray, List.length_cons, List.length_nil, Nat.reduceAdd, Nat.reduceSub, Array.replicate_succ, Array.replicate_zero, List.push_toArray, List.append_toArray, List.nil_append, List.cons_append]
  go_wp2_with fail
  refine (pknown_any _).mono ?_
  rintro e w1 ⟨rfl, hb1⟩
  have hA1 : Blk w1 w.heap.size #[.slice ao n cap] 24 := (Blk.new w _ _).below hb1 (by simp)
  have hbel : Below w.heap.size w w1 := ((Below.refl w.heap.size w).alloc (Nat.le_refl _) (.cells #[.slice ao n cap] 24)).trans (hb1.mono (by simp))
  clear hb1
  have cg := hA1.cellAt (i := 0) (v := .slice ao n cap) rfl
  dsimp only
  go_wp2_with fail
  refine (hN.out _ hbel).mono ?_
  rintro e w2 ⟨hb2, ta, xa, rfl, hTa⟩
  have hA2 := hA1.below hb2 hA1.lt
  have hbel2 := hbel.trans (hb2.mono hbel.size)
  have hw1 : w.heap.size < w1.heap.size := hA1.lt
  clear cg hA1 hb2
  have cg := hA2.cellAt (i := 0) (v := .slice ao n cap) rfl
  dsimp only
  go_wp2_with fail
  refine (hN.out _ hbel2).mono ?_
  rintro e w3 ⟨hb3, tb, xb, rfl, hTb⟩
  have hA3 := hA2.below hb3 hA2.lt
  have hbel3 := hbel2.trans (hb3.mono hbel2.size)
  have hTa3 := hTa.below hb3
  have hau : ta < w2.heap.size ∧ xa.mb < w2.heap.size := ⟨hTa.blk.lt, hTa.map.lt⟩
  obtain ⟨U, hU⟩ : ∃ U, U = w2.heap.size := ⟨_, rfl⟩
  rw [← hU] at hTb hau
  have hUs : U ≤ w3.heap.size := by rw [hU]; exact hb3.size
  have hwU : w.heap.size < U := by rw [hU]; exact hA2.lt
  replace hU := Lib.hid hU
  clear cg hA2 hTa hb3 hN hbel hbel2
  dsimp only
  go_upto_if 29 with fail
  go_cut [1] from 27 (fun s1 wx => s1 = .slice (some lad) m' lc ∧ wx = w3)
  case first =>
    rcases hcase.out with ⟨h1, rfl⟩ | ⟨h1, rfl⟩
    · have d1 : decide ((100 : Int) < (m' : Int)) = false := by simp; omega
      have d2 : decide (100 < m') = false := by simp; omega
      go_wp2_with fail
      go_meet
      case rel => first | exact ⟨rfl, rfl⟩ | exact ⟨rfl, trivial⟩
    · have d1 : decide ((100 : Int) < (m : Int)) = true := by simp; omega
      have d2 : decide (100 < m) = true := by simp; omega
      have h40c : 100 ≤ lc := by omega
      go_wp2_with fail
      go_meet
      case rel => first | exact ⟨rfl, rfl⟩ | exact ⟨rfl, trivial⟩
  case rest =>
    obtain ⟨e1, hwc⟩ := hcut
    subst e1
    rw [hwc]
    clear hwc
    clear hcase hml hmc
    have hUa := update_any L (some lad) lc w3 hTa3 (hsl.imp hbel3 hbel3.size (fun _ _ _ h => RCount.imp h hbel3 hbel3.size)) (by rw [hLl.out]; omega) (by rw [hLl.out]; simp only [List.length_nil]; omega)
    rw [hLl.out] at hUa
    obtain ⟨ue, hue⟩ : ∃ ue, ue = updE ops [] L := ⟨_, rfl⟩
    rw [← hue] at hUa
    replace hUa := Lib.hid hUa
    go_wp2_with fail
    refine hUa.out.mono ?_
    rintro e w4 ⟨rfl, hc4, hbad, hgood⟩
    have hwa : w.heap.size < xa.mb := Nat.lt_of_lt_of_le hw1 hTa3.bmb
    have hbel4 : Below w.heap.size w w4 := hbel3.trans (hc4.below hbel3.size (fun k hk e => by omega))
    by_cases hE : ue = 0
    · obtain ⟨ca, hTa4, hcna, hcla⟩ := hgood hE
      have hTb4 := hTb.chgL hc4 (fun k e => by rw [e]; exact hau.2)
      have hA4 := hA3.chg hc4 (fun e => by omega)
      have hall := updE_ok (hue.symm.trans hE)
      have d1 : (ue == 0) = true := by simpa using hE
      have d2 : (ue != 0) = false := by simp [hE]
      have hu4 : U ≤ w4.heap.size := Nat.le_trans hUs hc4.size
      obtain ⟨k, hk, hwk⟩ := mod_ok q (m' + 1) (by omega) (by omega)
      have hun : IntKind.u64.wrap ((m' : Int) + 1) = (m' : Int) + 1 := by show ((m' : Int) + 1) % 18446744073709551616 = _; omega
      replace hue := Lib.hid hue
      replace hcna := Lib.hid hcna
      replace hall := Lib.hid hall
      clear hUa hbad hgood hc4 hTa3 hTb hA3 hE hbel3
      dsimp only
      go_upto_region 12 with fail
      rw [show ((m' + 1 : Nat) : Int) = (m' : Int) + 1 by omega] at hwk
      rw [hwk]
      have hkm : k ≤ m' := by omega
      have hkc : k ≤ lc := by omega
      clear hun hwk
      have hkcH := Lib.hid hkc
      have hkmH := Lib.hid hkm
      have hsl4 := hsl.imp hbel4 hbel4.size (fun _ _ _ h => RCount.imp h hbel4 hbel4.size)
      have hld : (L.drop k).length = m' - k := by rw [List.length_drop, hLl.out]
      have hlt : (L.take k).length = k := by rw [List.length_take, hLl.out]; omega
      have hLk : L.take k ++ L.drop k = L := List.take_append_drop k L
      have hald : (L.drop k).all (okC ops) = true := by have := hall.out; rw [← hLk, List.all_append, Bool.and_eq_true] at this; exact this.2
      have halt : (L.take k).all (okC ops) = true := by have := hall.out; rw [← hLk, List.all_append, Bool.and_eq_true] at this; exact this.1
      have hE1 : updE ops [] (L.drop k) = 0 := upd_small hald (by rw [hld]; omega) (fun s => by simp [cntC, getC])
      have hUb : ∀ (x : Option Addr) (cap' : Nat), ((x = some (lad.add (k * 4)) ∧ cap' = lc - k) ∨ (lc = k ∧ x = some lad ∧ cap' = 0)) → Calls Try.prog 10 #[.pointer (some ⟨tb, 0, none⟩), .slice x (m' - k) cap'] w4 fun e w' =>
          e = .returned (.int .i64 0) ∧ Chg (fun j => j = xb.mb) w4 w' ∧ ∃ cb, Tr w' U tb xb ops cb ∧ (∀ s, cntC cb s = wrap64 (totC (L.drop k) s)) ∧ cb.length ≤ m' - k := fun x cap' hxc => by
        have hdr : SlA w4.heap.size 4 (RCount w4.heap.size) w4 x cap' (L.drop k) := by
          refine sla_dropA hsl4 k (by rw [hLl.out]; exact hkm) x cap' ?_ ?_
          · rcases hxc with ⟨rfl, rfl⟩ | ⟨rfl, rfl, rfl⟩
            · exact .inl ⟨rfl, rfl⟩
            · exact .inr ⟨rfl, rfl⟩
          · rcases hxc with ⟨rfl, rfl⟩ | ⟨rfl, rfl, rfl⟩ <;> simp
        have h := update_any (L.drop k) x cap' w4 hTb4 hdr (by rw [hld]; omega) (by rw [hld]; simp only [List.length_nil]; omega)
        rw [hld, hE1] at h
        refine h.mono ?_
        rintro e w' ⟨rfl, hc, _, hg⟩
        obtain ⟨cb, h1, h2, h3⟩ := hg rfl
        exact ⟨rfl, hc, cb, h1, fun s => by rw [h2 s]; simp [cntC, getC], by simpa using h3⟩
      have hUc : ∀ w5 (cb : List (TStamp × Int)), Tr w5 U tb xb ops cb → (∀ s, cntC cb s = wrap64 (totC (L.drop k) s)) → cb.length ≤ m' - k → Below w.heap.size w w5 → Calls Try.prog 10 #[.pointer (some ⟨tb, 0, none⟩), .slice (some lad) k lc] w5 fun e w' =>
          e = .returned (.int .i64 0) ∧ Chg (fun j => j = xb.mb) w5 w' ∧ ∃ cb', Tr w' U tb xb ops cb' ∧ (∀ s, cntC cb' s = cntC ca s) ∧ cb'.length ≤ m' := fun w5 cb hT5 hcb hcl hb5 => by
        have htk : SlA w5.heap.size 4 (RCount w5.heap.size) w5 (some lad) lc (L.take k) := (sla_take hsl k).imp hb5 hb5.size (fun _ _ _ h => RCount.imp h hb5 hb5.size)
        have hrd := fun s => tot_small (ops := ops) s hald (by rw [hld]; omega)
        have hcs : ∀ s, -214748364800 ≤ cntC cb s ∧ cntC cb s ≤ 214748364800 := fun s => by
          rw [hcb s, (hrd s).1]
          exact (hrd s).2
        have h := update_any (L.take k) (some lad) lc w5 hT5 htk (by rw [hlt]; omega) (by rw [hlt]; omega)
        rw [hlt, upd_small halt (by rw [hlt]; omega) hcs] at h
        refine h.mono ?_
        rintro e w' ⟨rfl, hc, _, hg⟩
        obtain ⟨cb', h1, h2, h3⟩ := hg rfl
        refine ⟨rfl, hc, cb', h1, fun s => ?_, by omega⟩
        rw [h2 s, hcb s, hcna.out s, show cntC [] s = 0 from rfl, show totC L s = totC (L.take k) s + totC (L.drop k) s by rw [← totC_append, hLk], (hrd s).1, Int.zero_add, Int.add_comm]
      have hub : U ≤ xb.mb := hTb4.bmb
      have hclm : ca.length ≤ 100 := by simp at hcla; omega
      replace hUb := Lib.hid hUb
      replace hUc := Lib.hid hUc
      clear hld hlt hLk hald halt hE1 hsl4
      go_cut [57] from 44 (fun s57 wx => s57 = .bool false ∧ ∃ cb, Tr wx U tb xb ops cb ∧ Tr wx w1.heap.size ta xa ops ca ∧ (∀ s, cntC cb s = cntC ca s) ∧ cb.length ≤ m' ∧ Below w.heap.size w wx ∧ Blk wx w.heap.size #[.slice ao n cap] 24 ∧ U ≤ wx.heap.size)
      case first =>
        go_wp2_with fail
        all_goals
          try subst_vars
          refine (hUb.out _ _ (by first | exact .inl ⟨rfl, rfl⟩ | exact .inr ⟨rfl, rfl, rfl⟩ | exact .inr ⟨by assumption, rfl, rfl⟩)).mono ?_
          rintro e w5 ⟨rfl, hc5, cb, hTb5, hcb5, hcl5⟩
          have hbel5 : Below w.heap.size w w5 := hbel4.trans (hc5.below hbel4.size (fun k hk e => by omega))
          have hUc5 := hUc.out w5 cb hTb5 hcb5 hcl5 hbel5
          have hTa5 := hTa4.chgU hc5 (fun k e => by omega) hau.1 hau.2
          have hA5 := hA4.chg hc5 (fun e => by omega)
          have hu5 := Nat.le_trans hu4 hc5.size
          replace hUc5 := Lib.hid hUc5
          clear hTb5 hcb5 hcl5 hc5
          dsimp only
          have hkc2 := hkcH.out
          go_wp2_with fail
          refine hUc5.out.mono ?_
          rintro e w6 ⟨rfl, hc6, cb6, hTb6, hcb6, hcl6⟩
          have hbel6 : Below w.heap.size w w6 := hbel5.trans (hc6.below hbel5.size (fun k hk e => by omega))
          have hTa6 := hTa5.chgU hc6 (fun k e => by omega) hau.1 hau.2
          have hA6 := hA5.chg hc6 (fun e => by omega)
          have hu6 := Nat.le_trans hu5 hc6.size
          replace hcb6 := Lib.hid hcb6
          dsimp only
          go_wp2_with fail
          go_meet
          case rel => exact ⟨rfl, cb6, hTb6, hTa6, hcb6.out, hcl6, hbel6, hA6, hu6⟩
      case rest =>
        obtain ⟨e57, cb, hTb, hTa, hcb, hclb, hbel5, hA5, hu5⟩ := hcut
        subst e57
        obtain ⟨w5, hw5⟩ : ∃ w5, w5 = wc := ⟨_, rfl⟩
        rw [← hw5] at hTb hTa hbel5 hA5 hu5 ⊢
        replace hcb := Lib.hid hcb
        have cg := hA5.cellAt (i := 0) (v := .slice ao n cap) rfl
        clear hw5 hUb hUc hTa4 hTb4 hA4 hbel4 hu4
        go_upto_region 15 with fail
        refine Code.wp_world ?_
        intro w6 hw6
        have hb6 : Below w5.heap.size w5 w6 := by rw [hw6]; exact ((Below.refl _ _).alloc (Nat.le_refl _) _).alloc (by simp) _
        have hM6 : Blk w6 w5.heap.size #[.slice ao n cap, .slice none 0 0] 59 := by rw [hw6]; exact (Blk.new _ _ _).alloc _
        have hX6 : Blk w6 (w5.heap.size + 1) #[.pointer (some ⟨w5.heap.size, 0, none⟩)] 57 := by
          rw [hw6]
          have := Blk.new (w5.alloc (.cells #[.slice ao n cap, .slice none 0 0] 59)) #[.pointer (some ⟨w5.heap.size, 0, none⟩)] 57
          rwa [World.size_alloc] at this
        have hz6 : w6.heap.size = w5.heap.size + 2 := by rw [hw6]; simp
        clear hw6 cg
        go_wp2_with fail
        refine (tall_any ta w6).mono ?_
        rintro e w7 ⟨rfl, hw7⟩
        have hb7 : Below w6.heap.size w6 w7 := by rw [hw7]; exact (Below.refl _ _).alloc (Nat.le_refl _) _
        have hB7 : Blk w7 w6.heap.size #[.pointer (some ⟨ta, 0, none⟩)] 28 := by rw [hw7]; exact Blk.new _ _ _
        have hz7 : w7.heap.size = w5.heap.size + 3 := by rw [hw7]; simp [hz6]
        have hM7 := hM6.below hb7 hM6.lt
        have hX7 := hX6.below hb7 hX6.lt
        have hbw7 := hb6.trans (hb7.mono hb6.size)
        obtain ⟨mk, hmk⟩ : ∃ mk, mk = w5.heap.size := ⟨_, rfl⟩
        obtain ⟨bq, hbq⟩ : ∃ bq, bq = w6.heap.size := ⟨_, rfl⟩
        rw [← hmk] at hM7 hX7 hz7 hz6 ⊢
        rw [← hbq] at hB7 hz6 ⊢
        have hst := tall_stops (8 - 1) (by omega) bq ta w7 (hB7.cellAt rfl) (hTa.below hbw7) (by omega)
        replace hmk := Lib.hid hmk
        replace hbq := Lib.hid hbq
        replace hz6 := Lib.hid hz6
        replace hz7 := Lib.hid hz7
        clear hw7 hb6 hM6 hX6 hb7
        dsimp only
        go_wp2_with fail
        refine (wpIn_wide (n := 8)).1 ?_
        have hzc : ca.length ≤ 100 := hclm
        have hmkl : mk < w7.heap.size := hM7.lt
        have hbql : bq < w7.heap.size := hB7.lt
        have hbq2 : mk + 1 < bq := by have := hz6.out; omega
        refine wpIn_rangeFunc_ownH (α := CountOf ca) rfl (by omega) (gf := 40) (lb := #[.pointer (some ⟨bq, 0, none⟩)]) rfl trivial (enters_of Try.func40 (by kernel_rfl) rfl)
          hst KeepIt.trans (fun W l o o' h1 h2 h3 h4 => KeepIt.put o' (by omega) h2 h3 h4) (Below.refl _ _) (fun _ => rfl)
          (OrI w5 w7 mk (.slice ao n cap))
          (fun _ _ _ => False) ?hI (fun _ _ _ _ _ h _ _ => h) ⟨_, hM7, OwnL.nil _ _ _ _ _, hX7, hbw7, Nat.le_refl _⟩
          (fun x a' W => ∃ Bx, w7.heap.size ≤ Bx ∧ Blk W Bx (encK x.1).toArray 40 ∧ (∀ v, W.cell? ⟨mk, 1, none⟩ = some v → v.ownBlock ≠ some Bx) ∧ a' = { tmps := #[.agg #[.slice ao n cap], .slice (some lad) m' lc, .int IntKind.i64 ↑k, .pointer (some ⟨w.heap.size, 0, none⟩), undef, undef, .bool false, .pointer (some ⟨ta, 0, none⟩), .int IntKind.i64 0, .pointer (some ⟨tb, 0, none⟩), .int IntKind.i64 0, .pointer (some ⟨mk + 1, 0, none⟩), .pointer (some ⟨Bx, 0, none⟩), .bool true, .bool false, .tuple #[.pointer (some ⟨ta, 0, none⟩), .int IntKind.i64 0], .agg #[.slice ao n cap], .tuple #[.pointer (some ⟨ta, 0, none⟩), .int IntKind.i64 0], .pointer (some ⟨ta, 0, none⟩), .int IntKind.i64 0, .tuple #[.pointer (some ⟨tb, 0, none⟩), .int IntKind.i64 0], .agg #[.slice ao n cap], .tuple #[.pointer (some ⟨tb, 0, none⟩), .int IntKind.i64 0], .pointer (some ⟨tb, 0, none⟩), .int IntKind.i64 0, .int IntKind.i64 0, .bool false, u27, u28, u29, u30, u31, .pointer (some ⟨ta, 0, none⟩), .slice (some lad) m' lc, .int IntKind.i64 ue, .bool false, .int IntKind.i64 q, .int IntKind.u64 (IntKind.u64.wrap q), .slice (some lad) m' lc, .int IntKind.i64 ↑m', .int IntKind.i64 (↑m' + 1), .int IntKind.u64 (↑m' + 1), .int IntKind.u64 ((IntKind.u64.wrap q).tmod (↑m' + 1)), .int IntKind.i64 ↑k, u44, u45, u46, u47, u48, u49, u50, u51, u52, u53, u54, u55, u56, .bool false, .agg #[.slice ao n cap], .agg #[.slice ao n cap, .slice none 0 0], .pointer (some ⟨mk, 0, none⟩), .pointer (some ⟨ta, 0, none⟩), .func (.func 40) #[] #[.pointer (some ⟨bq, 0, none⟩)], mkK x.1, u64, u65, u66, u67, u68, u69, u70, u71, u72, u73, u74, u75, u76, u77, u78, u79, u80, u81], defers := [] })
          ?hAx ?assign ?body ?done ?stop
        case hI =>
          rintro s X Y row ⟨v, h1, h2, h3, h4, h5⟩ hg hr
          have hr' : ∀ r, row = some r → ∃ o : Obj, X.heap[r]? = some o ∧ o.isCells = false := fun r e => (hr r e).2
          exact ⟨v, h1.grownN hg hr', h2.grownN hg hr', h3.grownN hg hr', h4.grown hg h4.size (fun g e => by have := (hr g e).1; have := hz7.out; have := hmk.out; omega), Nat.le_trans h5 hg.size⟩
        case hAx =>
          rintro x a' s X Y row ⟨Bx, h1, h2, h4, h3⟩ hg hr
          refine ⟨Bx, h1, h2.grownN hg (fun r e => (hr r e).2), fun v hv => h4 v ?_, h3⟩
          have hl := h2.lt
          rw [← hv]
          exact ((Chg.of_grown hg).cell (p := ⟨mk, 1, none⟩) (by show mk < _; omega) (fun e => by have := (hr mk e).1; omega)).symm
        case assign =>
          rintro l pre x W K ⟨v, h1, h2, h3, h4, h5⟩ hK
          obtain ⟨c, hc⟩ : ∃ c, c = x.1 := ⟨_, rfl⟩
          rw [← hc] at hK ⊢
          obtain ⟨⟨cl, ⟨ce, cr⟩⟩, cn⟩ := c
          dsimp only [mkK] at hK ⊢
          gi_wp2
          have hch : Chg (fun _ => False) W (W.alloc (.cells #[.int .i64 cl, .int .i64 ce, .int .i64 cr, .int .i64 cn] 40)) := (Chg.refl _ _).alloc _
          exact hK _ _ (keepsFrom_of_chg hch (fun _ h _ => h.elim)) (KeepIt.of_chg hch (fun _ h _ => h.elim)) ⟨v, h1.alloc _, h2.alloc _, h3.alloc _, h4.alloc h4.size _, Nat.le_trans h5 hch.size⟩ ⟨W.heap.size, h5, Blk.new _ _ _, fun v' hv' e => by
            have h6 := (h1.alloc (.cells #[.int .i64 cl, .int .i64 ce, .int .i64 cr, .int .i64 cn] 40)).cellAt (i := 1) (v := v) rfl
            rw [h6] at hv'
            cases hv'
            have := (h2.lt _ e).2
            omega, rfl⟩
        case body =>
          rintro l pre x a' W hl ⟨r, hr⟩ ⟨v, h1, h2, h3, h4, h5⟩ ⟨Bx, hBx, hX, hnx, rfl⟩ hlt
          obtain ⟨c, hc⟩ : ∃ c, c = x.1 := ⟨_, rfl⟩
          rw [← hc] at hX ⊢
          replace hc := Lib.hid hc
          obtain ⟨av, cv, hv, _, _, _⟩ := h2.slice
          obtain ⟨nP, hnP⟩ : ∃ nP, nP = (pre.map (·.1)).length := ⟨_, rfl⟩
          rw [← hnP] at hv
          have hnPl : nP < ca.length := by rw [hnP, List.length_map]; exact hlt
          subst hv
          replace hnP := Lib.hid hnP
          have cx := h3.cellAt (i := 0) (v := .pointer (some ⟨mk, 0, none⟩)) rfl
          have cm := h1.cellAt (i := 1) (v := .slice av nP cv) rfl
          have x0 := hX.cellAt (i := 0) (v := .int .i64 c.fS.fLoc) rfl
          have x1 := hX.cellAt (i := 1) (v := .int .i64 c.fS.fT.fEpoch) rfl
          have x2 := hX.cellAt (i := 2) (v := .int .i64 c.fS.fT.fRound) rfl
          have x3 := hX.cellAt (i := 3) (v := .int .i64 c.fN) rfl
          have hse : (#[.int .i64 c.fS.fLoc, .int .i64 c.fS.fT.fEpoch, .int .i64 c.fS.fT.fRound, .int .i64 c.fN] : Array Value) = (encK c).toArray := rfl
          replace hse := Lib.hid hse
          have hW7 := hbw7.size
          gi_wp2
          refine round_region_calm _ (fun wx => wx.cell? ⟨mk + 1, 0, none⟩ = some (.pointer (some ⟨mk, 0, none⟩)) ∧ wx.cell? ⟨mk, 1, none⟩ = some (.slice av nP cv) ∧ wx.cell? ⟨Bx, 0, none⟩ = some (.int .i64 c.fS.fLoc) ∧ wx.cell? ⟨Bx, 1, none⟩ = some (.int .i64 c.fS.fT.fEpoch) ∧ wx.cell? ⟨Bx, 2, none⟩ = some (.int .i64 c.fS.fT.fRound) ∧ wx.cell? ⟨Bx, 3, none⟩ = some (.int .i64 c.fN)) 8 [6, 7] (by kernel_rfl)
            (fun h => by obtain ⟨a, w, h⟩ := h; exact h) (by kernel_rfl) (by kernel_rfl) (fun d _ _ _ _ h => by cases d <;> exact h) ⟨cx, cm, x0, x1, x2, x3⟩ (fun hHeld => ?_)
          simp only [List.take_succ_cons, List.take_zero, List.drop_succ_cons, List.drop_zero]
          have h1d := h1.drewN 1
          have h2d := h2.drewN 1
          have h3d := h3.drewN 1
          have hXd := hX.drewN 1
          have hc2 : Chg (fun _ => False) W (W.drewN 1) := (Chg.refl _ W).drewN 1
          have h5d : w7.heap.size ≤ (W.drewN 1).heap.size := h5
          rw [show W.drewN 1 = W.drew from rfl] at h1d h2d h3d hXd hc2 h5d
          generalize hw2 : W.drew = w2 at h1d h2d h3d hXd hc2 h5d hHeld ⊢
          clear hw2
          iterate 6 (refine wpCalm_q0 rfl rfl ⟨?_, ?_, ?_⟩; rotate_left; (focus (intro wx hSx; (try dsimp only at hSx); go_simp; (try with_reducible rfl))); (simp only [Act.put, List.setIfInBounds_toArray, List.set_cons_zero, List.set_cons_succ]))
          refine wpCalm_s rfl rfl (fun K' hK => ?_)
          go_simp
          refine hK.out _ _ ⟨(h3d.alloc _).cellAt rfl, (h1d.alloc _).cellAt rfl, (hXd.alloc _).cellAt rfl, (hXd.alloc _).cellAt rfl, (hXd.alloc _).cellAt rfl, (hXd.alloc _).cellAt rfl⟩ ?_
          clear hK K'
          try simp only [Act.put, List.setIfInBounds_toArray, List.set_cons_zero, List.set_cons_succ]
          refine wpCalm_s rfl rfl (fun K' hK => ?_)
          refine step_app1g rfl _ _ 41 rfl Try.underlying41 hiK hK0 hK1 hK2 rfl (by decide) (enc := encK) c rfl h2d rfl (encK_len _) (encK_one _) (by rw [← hnP.out]; omega) (by rw [← hnP.out]; unfold maxLen; omega) h5d (fun g cap3 w8 hown8 hgr8 => ?_)
          have hM8 := hgr8.blk h1d (h2d.ne_blk h1d (by decide))
          have hY8 := hgr8.blk h3d (h2d.ne_blk h3d (by decide))
          have hX8 := hgr8.blk hXd (hnx _ cm)
          refine hK.out _ _ ⟨hY8.cellAt rfl, hM8.cellAt rfl, hX8.cellAt rfl, hX8.cellAt rfl, hX8.cellAt rfl, hX8.cellAt rfl⟩ ?_
          clear hK K'
          try simp only [Act.put, List.setIfInBounds_toArray, List.set_cons_zero, List.set_cons_succ]
          refine wpCalm_nil ?_
          have cm8 := hM8.cellAt (i := 1) (v := .slice av nP cv) rfl
          have cf8 := hM8.frozen 1
          have hset := hM8.set 1 (.slice (some ⟨g, 0, none⟩) ((pre.map (·.1)).length + 1) cap3)
          have hc8 : Chg (fun j => (Value.slice av nP cv).ownBlock = some j ∨ j = mk) W (w8.setCell ⟨mk, 1, none⟩ (.slice (some ⟨g, 0, none⟩) ((pre.map (·.1)).length + 1) cap3)) := ((hc2.mono (fun _ _ h => h.elim)).trans ((Chg.of_grown hgr8.grown).mono (fun j _ h => .inl h))).setCell _ _ (fun _ => .inr rfl)
          have hrow : ∀ j, (Value.slice av nP cv).ownBlock = some j → w7.heap.size ≤ j ∧ ∃ cells, Blk W j cells 40 := fun j hj => by
            rcases h2.form with ⟨h6, _⟩ | ⟨g', cap', cells, h6, h7, _⟩
            · rw [h6] at hj; cases hj
            · rw [h6] at hj
              obtain rfl : g' = j := by simpa [Value.ownBlock] using hj
              exact ⟨(h2.lt _ (by rw [h6]; rfl)).1, _, h7⟩
          have hkf : KeepsFrom w7.heap.size W (w8.setCell ⟨mk, 1, none⟩ (.slice (some ⟨g, 0, none⟩) ((pre.map (·.1)).length + 1) cap3)) := keepsFrom_of_chg hc8 (fun j hj hjl => by
            rcases hj with hj | rfl
            · obtain ⟨_, cells, h⟩ := hrow j hj
              exact ⟨_, _, _, h⟩
            · exact ⟨_, _, _, h1⟩)
          have hki : KeepIt bq w7.heap.size W (w8.setCell ⟨mk, 1, none⟩ (.slice (some ⟨g, 0, none⟩) ((pre.map (·.1)).length + 1) cap3)) := KeepIt.of_chg hc8 (fun j hj hjl => by
            rcases hj with hj | rfl
            · obtain ⟨h6, cells, h⟩ := hrow j hj
              exact ⟨by omega, .inr ⟨_, _, _, h, by decide⟩⟩
            · exact ⟨by omega, .inl (by omega)⟩)
          have hownE := hown8.chg ((Chg.refl (fun j => j = mk) w8).setCell ⟨mk, 1, none⟩ (.slice (some ⟨g, 0, none⟩) ((pre.map (·.1)).length + 1) cap3) (fun _ => rfl)) (fun g' e1 e2 => by have := (hown8.lt _ e1).1; omega)
          have hYE := hY8.set_other (p := ⟨mk, 1, none⟩) (by simp) (.slice (some ⟨g, 0, none⟩) ((pre.map (·.1)).length + 1) cap3)
          have hbE : Below w5.heap.size w5 (w8.setCell ⟨mk, 1, none⟩ (.slice (some ⟨g, 0, none⟩) ((pre.map (·.1)).length + 1) cap3)) := h4.trans (hc8.below h4.size (fun j hj e => by
            have := hmk.out
            rcases e with e | e
            · have := (hrow j e).1; omega
            · omega))
          have hpm : (pre ++ [x]).map (·.1) = pre.map (·.1) ++ [c] := by rw [List.map_append, List.map_singleton, ← hc.out]
          have hzE := Nat.le_trans h5 hc8.size
          rw [← hpm] at hownE
          have hres : OrI w5 w7 mk (.slice ao n cap) (pre ++ [x]) (w8.setCell ⟨mk, 1, none⟩ (.slice (some ⟨g, 0, none⟩) ((pre.map (·.1)).length + 1) cap3)) :=
            ⟨_, hset, hownE, hYE, hbE, hzE⟩
          have hlm : (pre.map (·.1)).length = pre.length := List.length_map _
          rw [hlm] at hkf hki hres
          have hfin := Lib.hid (And.intro hkf (And.intro hki hres))
          clear hset hc8 hrow hkf hki hownE hYE hbE hpm hzE hres hlm hX8 hY8 hHeld cx cm x0 x1 x2 x3 hnx
          go_wp2_with fail
          gi_wp2
          exact hfin.out
        case stop =>
          rintro D c pre W _ _ h _
          exact h.elim
        case done =>
          rintro D ys W hD hys ⟨v, h1, h2, h3, h4, h5⟩ hK
          obtain ⟨L0, hL0⟩ : ∃ L0, L0 = ys.map (·.1) := ⟨_, rfl⟩
          rw [← hL0] at h2 hys
          have hbW : Below w.heap.size w W := hbel5.trans (h4.mono hbel5.size)
          have hTaW := hTa.below h4
          have hTbW := hTb.below h4
          have hwfL : ∀ c ∈ L0, RCount W.heap.size W (encK c) c := fun c hc => by
            have h6 : c.fS ∈ ca.map Prod.fst := hys.perm.mem_iff.1 (List.mem_map.2 ⟨c, hc, rfl⟩)
            obtain ⟨p, hp, he⟩ := List.mem_map.1 h6
            have h7 : wfS c.fS := by rw [← he]; exact hTaW.map.wf (encC p) (List.mem_map.2 ⟨p, hp, rfl⟩)
            have h8 : c.fN = p.2 := by
              rw [hys.val c hc, ← he]
              unfold cntC
              rw [getC_of_mem hTaW.nodup (show (p.1, p.2) ∈ ca from hp)]
              rfl
            have h9 := hTaW.nz p hp
            refine ⟨rfl, h7.1, h7.2.1, h7.2.2, ?_⟩
            have h10 := wrap64_wf c.fN
            rwa [IntWalk.wrap64_in _ (by omega)] at h10
          obtain ⟨aL, cL, rfl, hsL⟩ := h2.sla encK_len hwfL
          have hgW := hx.imp hbW hbW.size (fun _ _ _ h => ROp.imp h hbW hbW.size)
          have hal1 := alike_any ta mk (-1) ao cap L0 aL cL W hTaW (by omega) (by rw [← hn.out]; exact h1) hgW hsL hys
          have hcbl : cb.length ≤ 100 := by omega
          have hal2 := fun W' hb => alike_any tb mk (-1) ao cap L0 aL cL W' (hTbW.below hb) (by omega) (by rw [← hn.out]; exact h1.below hb h1.lt) (hx.imp (hbW.trans (hb.mono hbW.size)) (hbW.trans (hb.mono hbW.size)).size (fun _ _ _ h => ROp.imp h (hbW.trans (hb.mono hbW.size)) (hbW.trans (hb.mono hbW.size)).size)) (hsL.imp hb hb.size (fun _ _ _ h => RCount.imp h hb hb.size)) (hys.congr hTaW.nodup hTbW.nodup hTaW.nz hTbW.nz hcb.out)
          have hMk := marks_one (B := w.heap.size) (w := W) (D := D) (by have := hbw7.size; have := hbel5.size; omega) hK
          have cx := h3.cellAt (i := 0) (v := .pointer (some ⟨mk, 0, none⟩)) rfl
          have hY3 := h3
          replace hal1 := Lib.hid hal1
          replace hal2 := Lib.hid hal2
          clear hst hK h1 h2 hsL hwfL hgW hys hL0
          dsimp only
          go_wp2_with fail
          refine hal1.out.mono ?_
          rintro e w9 ⟨rfl, hb9⟩
          have cx9 := (hY3.below hb9 hY3.lt).cellAt (i := 0) (v := .pointer (some ⟨mk, 0, none⟩)) rfl
          clear cx
          dsimp only
          go_wp2_with fail
          refine (hal2.out w9 hb9).mono ?_
          rintro e w10 ⟨rfl, hb10⟩
          have hb11 : Below W.heap.size W w10 := hb9.trans (hb10.mono hb9.size)
          dsimp only
          go_wp2_with fail
          have hM10 := hMk.chg (Chg.of_below hb11) (fun j hj x h => by have := (Array.getElem?_eq_some_iff.1 h).1; omega)
          have hbE := hbW.trans (hb11.mono hbW.size)
          refine leavesM_marks _ _ hM10 hbE.size (fun w' hs => ?_)
          exact ⟨.bool true, by simp [results, Try.results6, go_sem], rfl, hbE.trans hs.below⟩
    · have d1 : (ue == 0) = false := by simpa using hE
      have d2 : (ue != 0) = true := by simp [hE]
      clear hUa hE hbad hgood hue
      dsimp only
      go_wp2_with fail
      refine leavesM_marks [] _ trivial hbel4.size (fun w' hs => ?_)
      exact ⟨.bool true, by simp [results, Try.results6, go_sem], rfl, hbel4.trans hs.below⟩
end Go.Proofs.Ytbholbjegfnpdaa
