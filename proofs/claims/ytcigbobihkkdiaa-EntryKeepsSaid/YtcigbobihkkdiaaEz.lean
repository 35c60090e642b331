import Derived.Test.YtcigbobihkkdiaaEl
import Derived.Test.YtcigbobihkkdiaaEo
/- Entry: the reference's guess. -/
namespace Go.Proofs.Ytcigbobihkkdiaa
open Go.RowKit
set_option linter.unusedVariables false
set_option linter.unusedSimpArgs false

set_option maxRecDepth 100000 in
set_option maxHeartbeats 1000000 in
theorem rat_any (d : Nat) (D : Nat → Prop) (l : List Itm) (ao : Option Addr) (cap i : Nat) (w : World) (h : RItsP (d + 1) D w ao cap l) (hi : i ≤ 100) :
    Calls Try.prog 39 #[.slice ao l.length cap, .int .i64 i] w fun e w' => e = .returned (.int .i64 (atN l i)) ∧ w' = w := by
  have hlen := h.2
  obtain ⟨r, hr⟩ : ∃ r, r = atN l i := ⟨_, rfl⟩
  rw [← hr]
  unfold atN at hr
  obtain ⟨n, hn⟩ : ∃ n, n = l.length := ⟨_, rfl⟩
  rw [← hn] at hlen ⊢
  replace hn := Lib.hid hn
  by_cases hin : i < n
  · have hix : i < l.length := by rw [← hn.out]; exact hin
    obtain ⟨bb, rfl, hDb⟩ := h.addr (by omega)
    obtain ⟨x, hx⟩ : ∃ x, l[i] = x := ⟨_, rfl⟩
    obtain ⟨ao2, cap2, e0, e1, e2, e3, z0, z1, z2, hl2⟩ := h.at hix hx
    rw [List.getElem?_eq_getElem hix, hx] at hr
    dsimp only at hr
    have hd : decide ((i : Int) < (n : Int)) = true := by simp; omega
    clear h hx
    by_cases hk : x.kind = 0
    · have ek : (x.kind == 0) = true := by simpa using hk
      rw [if_pos hk] at hr
      subst hr
      go_enter Try.func39, Try.ntmps39
      go_wp2_with fail
      go_ret
      exact ⟨rfl, rfl⟩
    · have ek : (x.kind == 0) = false := by simpa using hk
      rw [if_neg hk] at hr
      subst hr
      go_enter Try.func39, Try.ntmps39
      go_wp2_with fail
      go_ret
      exact ⟨rfl, rfl⟩
  · rw [List.getElem?_eq_none (by rw [← hn.out]; omega)] at hr
    dsimp only at hr
    subst hr
    have hd : decide ((i : Int) < (n : Int)) = false := by simp; omega
    clear h
    go_enter Try.func39, Try.ntmps39
    go_wp2_with fail
    go_ret
    exact ⟨rfl, rfl⟩

/-- The state of guess: the result's place, the entry. -/
structure GS (w wr : World) (rb eb : Nat) (x : TEntry) (v : Value) : Prop where
  hr : Blk wr rb (encV8 zEnt (.slice none 0 0)) 29
  he : Blk wr eb (encV8 x v) 29
  o1 : w.heap.size ≤ rb
  o2 : rb < eb
  bel : Below w.heap.size w wr
theorem GS.setE {w u : World} {rb eb : Nat} {x0 x : TEntry} {v0 v y : Value} {i : Nat} (h : GS w u rb eb x0 v0) (he : (encV8 x0 v0).setIfInBounds i y = encV8 x v) : GS w (u.setCell ⟨eb, i, none⟩ y) rb eb x v := by
  obtain ⟨h1, h4, o1, o2, hbel⟩ := h
  exact ⟨h1.set_other (by simp; omega) _, by rw [← he]; exact h4.set i y, o1, o2, hbel.setCell (by simp; omega) _⟩
theorem GS.chg {w u u' : World} {rb eb : Nat} {x : TEntry} {v : Value} {S : Nat → Prop} (h : GS w u rb eb x v) (hc : Chg S u u') (hS : ∀ k, k ≤ eb → ¬ S k) : GS w u' rb eb x v := by
  obtain ⟨h1, h4, o1, o2, hbel⟩ := h
  exact ⟨h1.chg hc (hS _ (by omega)), h4.chg hc (hS _ (by omega)), o1, o2, hbel.trans (hc.below hbel.size (fun k hk => hS _ (by omega)))⟩
theorem GS.below {w u u' : World} {rb eb : Nat} {x : TEntry} {v : Value} (h : GS w u rb eb x v) (hb : Below u.heap.size u u') : GS w u' rb eb x v := by
  obtain ⟨h1, h4, o1, o2, hbel⟩ := h
  exact ⟨h1.below hb h1.lt, h4.below hb h4.lt, o1, o2, hbel.trans (hb.mono hbel.size)⟩
theorem RItsP.keep {d : Nat} {D : Nat → Prop} {w u : World} {ao : Option Addr} {cap : Nat} {l : List Itm} (h : RItsP d D w ao cap l) (hD : ∀ b, D b → b < w.heap.size) (hb : Below w.heap.size w u) : RItsP d D u ao cap l := h.imp fun b hb' => ⟨hb', hb.block b (hD b hb')⟩

/-- What guess answers. -/
def EGR (w : World) (x : TEntry) (e : Ending) (w' : World) : Prop :=
  Below w.heap.size w w' ∧ ∃ v ps, e = .returned (.agg (encV8 x v)) ∧ OpsR w.heap.size w' v ps ∧ ps.map (·.x) = x.fGraph.fOps
theorem wrap_mod (n : Int) : IntKind.u32.wrap n = n % 4294967296 := by
  simp [IntKind.wrap, IntKind.bits, IntKind.signed]
theorem len_cnt2 : ∀ (l : List Itm), l.length ≤ cntL l
  | [] => by rw [cntL]; exact Nat.le_refl _
  | .mk k n s r :: t => by have := len_cnt2 t; rw [cntL, cntI, List.length_cons]; omega
theorem cnt_mem2 {x : Itm} : ∀ {l : List Itm}, x ∈ l → cntL x.lst ≤ cntL l
  | [], h => by simp at h
  | .mk k n s r :: t, h => by
    rw [cntL, cntI]
    rcases List.mem_cons.1 h with rfl | h
    · show cntL r ≤ _
      omega
    · have := cnt_mem2 h; omega

set_option maxRecDepth 100000 in
set_option maxHeartbeats 2000000 in
theorem guess_any (D : Nat → Prop) (l : List Itm) (ao : Option Addr) (cap : Nat) (w : World) (h : RItsP 8 D w ao cap l) (hD : ∀ b, D b → b < w.heap.size) (hcl : cntL l ≤ 4096) :
    Calls Try.prog 28 #[.slice ao l.length cap] w (EGR w (gE l)) := by
  have hat : ∀ (u : World) (i : Nat), Below w.heap.size w u → i ≤ 100 → Calls Try.prog 39 #[.slice ao l.length cap, .int .i64 i] u fun e w' => e = .returned (.int .i64 (atN l i)) ∧ w' = u := fun u i hb hi => rat_any 7 D l ao cap i u (h.keep hD hb) hi
  have hlen := h.2
  obtain ⟨k, hk⟩ : ∃ k, k = atN l 0 := ⟨_, rfl⟩
  obtain ⟨R, hR⟩ : ∃ r, r = gE l := ⟨_, rfl⟩
  rw [← hR]
  unfold gE at hR
  rw [← hk] at hR
  obtain ⟨n, hn⟩ : ∃ n, n = l.length := ⟨_, rfl⟩
  rw [← hn] at hlen hat ⊢
  replace hn := Lib.hid hn
  replace hR := Lib.hid hR
  replace hat := Lib.hid hat
  go_enter Try.func28, Try.ntmps28
  go_upto_region 1 with fail
  refine Code.wp_world ?_
  intro w1 hw1
  obtain ⟨rb, hrb⟩ : ∃ c, c = w.heap.size := ⟨_, rfl⟩
  have hb1 : Below w.heap.size w w1 := by rw [hw1]; exact below_alloc1 w _
  have hs1 : w1.heap.size = rb + 1 := by rw [hw1, hrb]; simp
  have hC1 : Blk w1 rb (encV8 zEnt (.slice none 0 0)) 29 := by rw [hw1, hrb]; exact Blk.new _ _ _
  rw [← hrb]
  clear hw1
  have hrw := Nat.le_of_eq hrb.symm
  replace hrb := Lib.hid hrb
  have hA := hat.out w1 0 hb1 (by omega)
  rw [← hk] at hA
  replace hk := Lib.hid hk
  go_wp2_with (go_at_call 39; refine Shut.out ?k0)
  unfold Shut
  refine hA.mono ?_
  rintro e wq ⟨rfl, rfl⟩
  dsimp only
  clear hA
  go_upto_region 2 with fail
  refine Code.wp_world ?_
  intro w2 hw2
  obtain ⟨eb, heb⟩ : ∃ c, c = rb + 1 := ⟨_, rfl⟩
  have hG2 : GS w w2 rb eb ⟨k, zRec, ⟨[]⟩, 0⟩ (.slice none 0 0) := by
    have h56 : Below wq.heap.size wq w2 := by rw [hw2]; exact below_alloc1 _ _
    refine ⟨hC1.below h56 hC1.lt, by rw [hw2]; exact Blk.new_at _ _ _ (by omega), hrw, by omega, hb1.trans (h56.mono hb1.size)⟩
  rw [← heb]
  clear hw2 hC1 hb1 hs1 heb
  have ek : w2.cell? ⟨eb, 0, none⟩ = some (.int .i64 k) := hG2.he.cellAt rfl
  by_cases k1 : k = 1
  · subst k1
    have hRv := hR.out
    rw [if_pos rfl] at hRv
    replace hRv := Lib.hid hRv
    have hA := hat.out _ 1 hG2.bel (by omega)
    obtain ⟨m1, hm1⟩ : ∃ k, k = atN l 1 := ⟨_, rfl⟩
    rw [← hm1] at hA
    replace hm1 := Lib.hid hm1
    go_wp2_with (go_at_call 39; refine Shut.out ?km1)
    unfold Shut
    refine hA.mono ?_
    rintro e wx ⟨rfl, rfl⟩
    dsimp only
    clear hA
    have hA := hat.out _ 2 hG2.bel (by omega)
    obtain ⟨m2, hm2⟩ : ∃ k, k = atN l 2 := ⟨_, rfl⟩
    rw [← hm2] at hA
    replace hm2 := Lib.hid hm2
    go_wp2_with (go_at_call 39; refine Shut.out ?km2)
    unfold Shut
    refine hA.mono ?_
    rintro e wx ⟨rfl, rfl⟩
    dsimp only
    clear hA
    have hA := hat.out _ 3 hG2.bel (by omega)
    obtain ⟨m3, hm3⟩ : ∃ k, k = atN l 3 := ⟨_, rfl⟩
    rw [← hm3] at hA
    replace hm3 := Lib.hid hm3
    go_wp2_with (go_at_call 39; refine Shut.out ?km3)
    unfold Shut
    refine hA.mono ?_
    rintro e wx ⟨rfl, rfl⟩
    dsimp only
    clear hA
    have hA := hat.out _ 5 hG2.bel (by omega)
    obtain ⟨m5, hm5⟩ : ∃ k, k = atN l 5 := ⟨_, rfl⟩
    rw [← hm5] at hA
    replace hm5 := Lib.hid hm5
    go_wp2_with (go_at_call 39; refine Shut.out ?km5)
    unfold Shut
    refine hA.mono ?_
    rintro e wx ⟨rfl, rfl⟩
    dsimp only
    clear hA
    obtain ⟨g0, g1, g2, g3, g4, g5, g6, g7⟩ := blk8 hG2.he
    have gf := fun i => hG2.he.frozen i
    obtain ⟨m6, hm6⟩ : ∃ k, k = m5 % 4294967296 := ⟨_, rfl⟩
    replace hm6 := Lib.hid hm6
    go_upto_region 6 with fail
    refine Code.wp_world ?_
    intro w4 hw4
    rw [← hm6.out] at hw4
    have hG4 : GS w w4 rb eb ⟨1, ⟨m1, m2, m3, ⟨#[]⟩, m6⟩, ⟨[]⟩, 0⟩ (.slice none 0 0) := by
      rw [hw4]
      exact ((((hG2.setE (i := 1) (v := .slice none 0 0) (x := ⟨1, ⟨m1, 0, 0, ⟨#[]⟩, 0⟩, ⟨[]⟩, 0⟩) rfl).setE (i := 2) (v := .slice none 0 0) (x := ⟨1, ⟨m1, m2, 0, ⟨#[]⟩, 0⟩, ⟨[]⟩, 0⟩) rfl).setE (i := 3) (v := .slice none 0 0) (x := ⟨1, ⟨m1, m2, m3, ⟨#[]⟩, 0⟩, ⟨[]⟩, 0⟩) rfl).setE (i := 4) (v := .slice none 0 0) (x := ⟨1, ⟨m1, m2, m3, ⟨#[]⟩, 0⟩, ⟨[]⟩, 0⟩) rfl).setE (i := 5) rfl
    clear hw4 hG2 ek g0 g1 g2 g3 g4 g5 g6 g7 gf
    by_cases hn4 : 4 < n
    · have hix : 4 < l.length := by rw [← hn.out]; exact hn4
      obtain ⟨x, hx⟩ : ∃ x, l[4] = x := ⟨_, rfl⟩
      have hit := h.keep hD hG4.bel
      obtain ⟨bb, rfl, hDb⟩ := hit.addr (by omega)
      obtain ⟨ao2, cap2, e0, e1, e2, e3, _, _, _, _⟩ := hit.at hix hx
      rw [List.getElem?_eq_getElem hix, hx] at hRv
      have hd : decide ((4 : Int) < (n : Int)) = true := by simp; omega
      have hk4 : w4.cell? ⟨eb, 4, none⟩ = some (.string ⟨#[]⟩) := hG4.he.cellAt rfl
      have hf4 := hG4.he.frozen 4
      have e2' : w4.cell? ⟨bb, 18, none⟩ = some (.string x.txt) := e2
      clear hit hx e0 e1 e2 e3
      go_upto_region 19 with fail
      refine Code.wp_world ?_
      intro w5 hw5
      have hG5 : GS w w5 rb eb ⟨1, ⟨m1, m2, m3, x.txt, m6⟩, ⟨[]⟩, 0⟩ (.slice none 0 0) := by rw [hw5]; exact hG4.setE rfl
      have hRw := hRv.out
      dsimp only at hRw
      rw [← hm1.out, ← hm2.out, ← hm3.out, ← hm5.out, wrap_mod, ← hm6.out] at hRw
      subst hRw
      clear hw5 hG4 hk4 hf4 e2' hm1 hm2 hm3 hm5 hm6 hRv
      obtain ⟨g0, g1, g2, g3, g4, g5, g6, g7⟩ := blk8 hG5.he
      obtain ⟨q0, q1, q2, q3, q4, q5, q6, q7⟩ := blk8 hG5.hr
      have qf := fun i => hG5.hr.frozen i
      have hGb := hG5.bel
      have hGr := hG5.hr
      have hG1 := hG5.o1
      have hG2' := hG5.o2
      clear hG5
      go_wp2_with fail
      refine bodyPost_ret (results_cell_row rfl _ _ rb 29 _ (0, 0) _ rfl ((((((((hGr.set 0 _).set 1 _).set 2 _).set 3 _).set 4 _).set 5 _).set 6 _).set 7 _) Try.underlying29 rfl (by kernel_rfl)) rfl ?_
      refine ⟨(by repeat (first | with_reducible assumption | with_reducible exact Below.refl _ _ | with_reducible refine below_drewN ?_ _ | with_reducible refine Below.drew ?_ | (refine Below.setCell ?_ (by first | omega | (simp; omega) | simp) _) | (refine Below.alloc ?_ (by first | omega | (simp; omega) | simp) _) | (refine Below.trans ?_ (Below.mono (by with_reducible assumption) (by first | omega | (simp; omega) | simp))))), _, [], rfl, OpsR.nil _ _, rfl⟩
    · rw [List.getElem?_eq_none (by rw [← hn.out]; omega)] at hRv
      have hd : decide ((4 : Int) < (n : Int)) = false := by simp; omega
      have hRw := hRv.out
      dsimp only at hRw
      rw [← hm1.out, ← hm2.out, ← hm3.out, ← hm5.out, wrap_mod, ← hm6.out] at hRw
      subst hRw
      clear hm1 hm2 hm3 hm5 hm6 hRv
      go_upto_region 19 with fail
      obtain ⟨g0, g1, g2, g3, g4, g5, g6, g7⟩ := blk8 hG4.he
      obtain ⟨q0, q1, q2, q3, q4, q5, q6, q7⟩ := blk8 hG4.hr
      have qf := fun i => hG4.hr.frozen i
      have hGb := hG4.bel
      have hGr := hG4.hr
      have hG1 := hG4.o1
      have hG2' := hG4.o2
      clear hG4
      go_wp2_with fail
      refine bodyPost_ret (results_cell_row rfl _ _ rb 29 _ (0, 0) _ rfl ((((((((hGr.set 0 _).set 1 _).set 2 _).set 3 _).set 4 _).set 5 _).set 6 _).set 7 _) Try.underlying29 rfl (by kernel_rfl)) rfl ?_
      refine ⟨(by repeat (first | with_reducible assumption | with_reducible exact Below.refl _ _ | with_reducible refine below_drewN ?_ _ | with_reducible refine Below.drew ?_ | (refine Below.setCell ?_ (by first | omega | (simp; omega) | simp) _) | (refine Below.alloc ?_ (by first | omega | (simp; omega) | simp) _) | (refine Below.trans ?_ (Below.mono (by with_reducible assumption) (by first | omega | (simp; omega) | simp))))), _, [], rfl, OpsR.nil _ _, rfl⟩
  by_cases k3 : k = 3
  · subst k3
    have hRv := hR.out
    rw [if_neg (by decide), if_pos rfl] at hRv
    by_cases hn1 : 1 < n
    case neg =>
      rw [List.getElem?_eq_none (by rw [← hn.out]; omega)] at hRv
      have hd : decide ((1 : Int) < (n : Int)) = false := by simp; omega
      dsimp only at hRv
      subst hRv
      go_wp2_with fail
      go_loopw [4] (fun x4 wr => x4 = .int .i64 0 ∧ GS w wr rb eb ⟨3, zRec, ⟨[]⟩, 0⟩ (.slice none 0 0)) (fun _ _ => 0)
      case atStart => exact ⟨rfl, hG2⟩
      case round =>
        clear hG2 ek
        obtain ⟨rfl, hG2⟩ := hrel
        go_upto_region 19 with fail
        obtain ⟨g0, g1, g2, g3, g4, g5, g6, g7⟩ := blk8 hG2.he
        obtain ⟨q0, q1, q2, q3, q4, q5, q6, q7⟩ := blk8 hG2.hr
        have qf := fun i => hG2.hr.frozen i
        have hGb := hG2.bel
        have hGr := hG2.hr
        have hG1 := hG2.o1
        have hG2' := hG2.o2
        clear hG2
        go_wp2_with fail
        refine bodyPost_ret (results_cell_row rfl _ _ rb 29 _ (0, 0) _ rfl ((((((((hGr.set 0 _).set 1 _).set 2 _).set 3 _).set 4 _).set 5 _).set 6 _).set 7 _) Try.underlying29 rfl (by kernel_rfl)) rfl ?_
        refine ⟨(by repeat (first | with_reducible assumption | with_reducible exact Below.refl _ _ | with_reducible refine below_drewN ?_ _ | with_reducible refine Below.drew ?_ | (refine Below.setCell ?_ (by first | omega | (simp; omega) | simp) _) | (refine Below.alloc ?_ (by first | omega | (simp; omega) | simp) _) | (refine Below.trans ?_ (Below.mono (by with_reducible assumption) (by first | omega | (simp; omega) | simp))))), _, [], rfl, OpsR.nil _ _, rfl⟩
    have hd1 : decide ((1 : Int) < (n : Int)) = true := by simp; omega
    have hix : 1 < l.length := by rw [← hn.out]; exact hn1
    obtain ⟨x1, hx1⟩ : ∃ x, l[1] = x := ⟨_, rfl⟩
    rw [List.getElem?_eq_getElem hix, hx1] at hRv
    dsimp only at hRv
    obtain ⟨bb, rfl, hDb⟩ := h.addr (by omega)
    obtain ⟨ao1, cap1, e0, e1, e2, e3, _, _, _, hit1⟩ := h.at hix hx1
    have e3' : w.cell? ⟨bb, 7, none⟩ = some (.slice ao1 x1.lst.length cap1) := e3
    have hcx : cntL x1.lst ≤ 4096 := Nat.le_trans (cnt_mem2 (by rw [← hx1]; exact List.getElem_mem hix)) hcl
    have hwx : wfL x1.lst := (hit1.rits (B := w.heap.size) hD).wf
    obtain ⟨m, hm⟩ : ∃ m, m = x1.lst.length := ⟨_, rfl⟩
    have hm4 : m ≤ 4096 := by rw [hm]; exact Nat.le_trans (len_cnt2 _) hcx
    rw [← hm] at e3'
    replace hm := Lib.hid hm
    replace hRv := Lib.hid hRv
    replace hwx := Lib.hid hwx
    clear e0 e1 e2 e3 hx1
    have hbbw : bb < w.heap.size := hD bb hDb
    go_wp2_with fail
    go_loopw [4] (fun x4 wr => ∃ (i : Nat) (ps : List POp) (v : Value), i ≤ m ∧ x4 = .int .i64 i ∧ GS w wr rb eb ⟨3, zRec, ⟨ps.map (·.x)⟩, 0⟩ v ∧ OpsR (eb + 1) wr v ps ∧ ps.map (·.x) = (x1.lst.take i).map gOp) (fun x4 _ => m - (intOf x4).toNat)
    case atStart => exact ⟨0, [], _, Nat.zero_le _, rfl, hG2, OpsR.nil _ _, rfl⟩
    case round =>
      clear hG2 ek
      obtain ⟨i, ps, v, hi, rfl, hG, hops, hpm⟩ := hrel
      have hbw := hG.bel
      have e7 := (hbw.cell (p := ⟨bb, 7, none⟩) hbbw).trans e3'
      by_cases him : i < m
      · have hdi : decide ((i : Int) < (m : Int)) = true := by simp; omega
        have hxi : i < x1.lst.length := by rw [← hm.out]; exact him
        obtain ⟨o, hxo⟩ : ∃ o, x1.lst[i] = o := ⟨_, rfl⟩
        have hti2 : (x1.lst.take (i + 1)).map gOp = (x1.lst.take i).map gOp ++ [gOp o] := by rw [List.take_add_one, List.getElem?_eq_getElem hxi, hxo, List.map_append]; rfl
        have hmo : o ∈ x1.lst := by rw [← hxo]; exact List.getElem_mem hxi
        have hco : cntL o.lst ≤ 4096 := Nat.le_trans (cnt_mem2 hmo) hcx
        have hwfo : wfL o.lst := wfI_lst (wfL_mem hwx.out hmo)
        obtain ⟨bc, rfl, hDc⟩ := hit1.addr (by omega)
        have hbc := hD bc hDc
        obtain ⟨ao2, cap2, g0, g1, g2, g3, _, _, _, hit2⟩ := (hit1.keep hD hbw).at hxi hxo
        obtain ⟨no, hno⟩ : ∃ k, k = o.lst.length := ⟨_, rfl⟩
        rw [← hno] at g3
        have hpsl : ps.length = i := by have := congrArg List.length hpm; rw [List.length_map, List.length_map, List.length_take] at this; omega
        have hatx : ∀ (u : World) (q : Nat), Below w.heap.size w u → q ≤ 100 → Calls Try.prog 39 #[.slice ao2 o.lst.length cap2, .int .i64 q] u fun e w' => e = .returned (.int .i64 (atN o.lst q)) ∧ w' = u := fun u q hb hq => by
          obtain ⟨ao2', cap2', _, _, _, g3', _, _, _, hit2'⟩ := (hit1.keep hD hb).at hxi hxo
          have e1 := (hb.cell (p := ⟨bc, i * 4 + 3, none⟩) hbc).symm.trans g3'
          obtain ⟨ao3, cap3, _, _, _, g4, _, _, _, hit3⟩ := hit1.at hxi hxo
          have e2 := (hbw.cell (p := ⟨bc, i * 4 + 3, none⟩) hbc).symm.trans g3
          have e3 : ao2' = ao2 ∧ cap2' = cap2 := by
            rw [g4] at e1 e2
            simp only [Option.some.injEq, Value.slice.injEq] at e1 e2
            exact ⟨by rw [← e1.1, e2.1], by rw [← e1.2.2, e2.2.2]⟩
          rw [← e3.1, ← e3.2]
          exact rat_any 5 D o.lst ao2' cap2' q u hit2' hq
        rw [← hno] at hatx
        clear g0 g1 g2 hmo
        replace hatx := Lib.hid hatx
        replace hno := Lib.hid hno
        replace hxo := Lib.hid hxo
        replace hti2 := Lib.hid hti2
        replace hpm := Lib.hid hpm
        replace hpsl := Lib.hid hpsl
        replace hwfo := Lib.hid hwfo
        have hA := hatx.out _ 0 hbw (by omega)
        obtain ⟨a0, ha0⟩ : ∃ k, k = atN o.lst 0 := ⟨_, rfl⟩
        rw [← ha0] at hA
        have hza0 : (Lit.int IntKind.i64 a0).wf = true := by rw [ha0]; exact atN_wf hwfo.out _
        replace ha0 := Lib.hid ha0
        go_wp2_with (go_at_call 39; refine Shut.out ?kxa0)
        unfold Shut
        refine hA.mono ?_
        rintro e wx ⟨rfl, rfl⟩
        dsimp only
        clear hA
        have hA := hatx.out _ 2 hbw (by omega)
        obtain ⟨a2, ha2⟩ : ∃ k, k = atN o.lst 2 := ⟨_, rfl⟩
        rw [← ha2] at hA
        have hza2 : (Lit.int IntKind.i64 a2).wf = true := by rw [ha2]; exact atN_wf hwfo.out _
        replace ha2 := Lib.hid ha2
        go_wp2_with (go_at_call 39; refine Shut.out ?kxa2)
        unfold Shut
        refine hA.mono ?_
        rintro e wx ⟨rfl, rfl⟩
        dsimp only
        clear hA
        have hA := hatx.out _ 3 hbw (by omega)
        obtain ⟨a3, ha3⟩ : ∃ k, k = atN o.lst 3 := ⟨_, rfl⟩
        rw [← ha3] at hA
        have hza3 : (Lit.int IntKind.i64 a3).wf = true := by rw [ha3]; exact atN_wf hwfo.out _
        replace ha3 := Lib.hid ha3
        go_wp2_with (go_at_call 39; refine Shut.out ?kxa3)
        unfold Shut
        refine hA.mono ?_
        rintro e wx ⟨rfl, rfl⟩
        dsimp only
        clear hA
        have hA := hatx.out _ 4 hbw (by omega)
        obtain ⟨a4, ha4⟩ : ∃ k, k = atN o.lst 4 := ⟨_, rfl⟩
        rw [← ha4] at hA
        have hza4 : (Lit.int IntKind.i64 a4).wf = true := by rw [ha4]; exact atN_wf hwfo.out _
        replace ha4 := Lib.hid ha4
        go_wp2_with (go_at_call 39; refine Shut.out ?kxa4)
        unfold Shut
        refine hA.mono ?_
        rintro e wx ⟨rfl, rfl⟩
        dsimp only
        clear hA
        have hA := hatx.out _ 5 hbw (by omega)
        obtain ⟨a5, ha5⟩ : ∃ k, k = atN o.lst 5 := ⟨_, rfl⟩
        rw [← ha5] at hA
        have hza5 : (Lit.int IntKind.i64 a5).wf = true := by rw [ha5]; exact atN_wf hwfo.out _
        replace ha5 := Lib.hid ha5
        go_wp2_with (go_at_call 39; refine Shut.out ?kxa5)
        unfold Shut
        refine hA.mono ?_
        rintro e wx ⟨rfl, rfl⟩
        dsimp only
        clear hA
        have hA := hatx.out _ 6 hbw (by omega)
        obtain ⟨a6, ha6⟩ : ∃ k, k = atN o.lst 6 := ⟨_, rfl⟩
        rw [← ha6] at hA
        have hza6 : (Lit.int IntKind.i64 a6).wf = true := by rw [ha6]; exact atN_wf hwfo.out _
        replace ha6 := Lib.hid ha6
        go_wp2_with (go_at_call 39; refine Shut.out ?kxa6)
        unfold Shut
        refine hA.mono ?_
        rintro e wx ⟨rfl, rfl⟩
        dsimp only
        clear hA
        obtain ⟨u3, hu3⟩ : ∃ k, k = a3 % 4294967296 := ⟨_, rfl⟩
        obtain ⟨u6, hu6⟩ : ∃ k, k = a6 % 4294967296 := ⟨_, rfl⟩
        replace hu3 := Lib.hid hu3
        replace hu6 := Lib.hid hu6
        go_upto_region 14 with fail
        refine Code.wp_world ?_
        intro w5 hw5
        obtain ⟨pb, hpb⟩ : ∃ c, c = wx.heap.size := ⟨_, rfl⟩
        have hP5 : Blk w5 pb #[.int .i64 a0, .slice none 0 0, .int .i64 a2, .int .u32 u3, .int .i64 a4, .int .i64 a5, .int .u32 u6] 47 := by rw [hw5, hpb, hu3.out, hu6.out]; exact Blk.new _ _ _
        have hb5 : Below wx.heap.size wx w5 := by rw [hw5]; exact below_alloc1 _ _
        have hpe : pb < w5.heap.size := hP5.lt
        rw [← hpb]
        clear hw5
        replace hpb := Lib.hid hpb
        obtain ⟨ys, hys⟩ : ∃ ys, ys = (gOp o).fIn := ⟨_, rfl⟩
        have hys2 := hys
        unfold gOp at hys2
        dsimp only at hys2
        have hgo : gOp o = ⟨a0, ys, a2, u3, a4, a5, u6⟩ := by
          rw [hys, hu3.out, hu6.out, ha0.out, ha2.out, ha3.out, ha4.out, ha5.out, ha6.out, ← wrap_mod, ← wrap_mod]
          rfl
        have hwys : ∀ n ∈ ys, (Lit.int IntKind.i64 n).wf = true := by
          intro q hq
          rw [hys2] at hq
          split at hq
          · rename_i z hz
            obtain ⟨y, hy, rfl⟩ := List.mem_map.1 hq
            exact wfI_num (wfL_mem (wfI_lst (wfL_mem hwfo.out (List.mem_of_getElem? hz))) hy)
          · simp at hq
        obtain ⟨my, hmy⟩ : ∃ k, k = ys.length := ⟨_, rfl⟩
        obtain ⟨jN, hiN, hN0, hN1, hN2⟩ := info_parts infoN
        obtain ⟨jO, hiO, hO0, hO1, hO2⟩ := info_parts infoO
        replace hgo := Lib.hid hgo
        replace hwys := Lib.hid hwys
        replace hys := Lib.hid hys
        replace hmy := Lib.hid hmy
        obtain ⟨wq, rfl⟩ : ∃ x, x = wx := ⟨_, rfl⟩
        have hwq5 : wq.heap.size ≤ w5.heap.size := hb5.size
        by_cases hno1 : 1 < no
        · have hd2 : decide ((1 : Int) < (no : Int)) = true := by simp; omega
          have hox : 1 < o.lst.length := by rw [← hno.out]; exact hno1
          obtain ⟨y1, hy1⟩ : ∃ x, o.lst[1] = x := ⟨_, rfl⟩
          rw [List.getElem?_eq_getElem hox, hy1] at hys2
          dsimp only at hys2
          obtain ⟨bx, rfl, hDx⟩ := hit2.addr (by omega)
          have hbx := hD bx hDx
          obtain ⟨ao5, cap5, _, _, _, f3, _, _, _, hit5⟩ := hit2.at hox hy1
          have f3' : wq.cell? ⟨bx, 7, none⟩ = some (.slice ao5 y1.lst.length cap5) := f3
          have hmyl : my = y1.lst.length := by rw [hmy.out, hys2, List.length_map]
          have hmy4 : my ≤ 4096 := by rw [hmyl]; exact Nat.le_trans (len_cnt2 _) (Nat.le_trans (cnt_mem2 (by rw [← hy1]; exact List.getElem_mem hox)) hco)
          rw [← hmyl] at f3'
          replace hmyl := Lib.hid hmyl
          replace hys2 := Lib.hid hys2
          have hDq : ∀ b, D b → b < wq.heap.size := fun b hb => Nat.lt_of_lt_of_le (hD b hb) hbw.size
          clear f3 hy1
          go_wp2_with fail
          go_loopw [7] (fun x7 wr => ∃ (j : Nat) (vin : Value), j ≤ my ∧ x7 = .int .i64 j ∧ Blk wr pb #[.int .i64 a0, vin, .int .i64 a2, .int .u32 u3, .int .i64 a4, .int .i64 a5, .int .u32 u6] 47 ∧
            OwnL encN wr w5.heap.size 3 1 vin (ys.take j) ∧ Below wq.heap.size wq wr ∧ w5.heap.size ≤ wr.heap.size) (fun x7 _ => my - (intOf x7).toNat)
          case atStart => exact ⟨0, _, Nat.zero_le _, rfl, hP5, OwnL.nil _ _ _ _ _, hb5, Nat.le_refl _⟩
          case round =>
            clear hP5 hb5
            obtain ⟨j, vin, hj, rfl, hPr, hown, hbr, hszr⟩ := hrel
            obtain ⟨aoI, capI, hvv, _, _, _⟩ := hown.slice
            subst hvv
            have hlj : (ys.take j).length = j := by rw [List.length_take, ← hmy.out]; omega
            have f7 := (hbr.cell (p := ⟨bx, 7, none⟩) (Nat.lt_of_lt_of_le hbx hbw.size)).trans f3'
            by_cases hjm : j < my
            · have hdj : decide ((j : Int) < (my : Int)) = true := by simp; omega
              have hjx : j < y1.lst.length := by rw [← hmyl.out]; exact hjm
              obtain ⟨q, hq⟩ : ∃ q, y1.lst[j] = q := ⟨_, rfl⟩
              have htj2 : ys.take (j + 1) = ys.take j ++ [q.num] := by rw [hys2.out, List.take_add_one, List.getElem?_map, List.getElem?_eq_getElem hjx, hq]; rfl
              obtain ⟨b6, rfl, hD6⟩ := hit5.addr (by omega)
              have hb6 := hDq b6 hD6
              obtain ⟨_, _, _, g1', _, _, _, _, _, _⟩ := (hit5.keep hDq hbr).at hjx hq
              have hP1 : wr.cell? ⟨pb, 1, none⟩ = some (.slice aoI (ys.take j).length capI) := hPr.cellAt rfl
              rw [hlj] at hown hP1
              replace hlj := Lib.hid hlj
              replace hq := Lib.hid hq
              replace htj2 := Lib.hid htj2
              have hb6r : b6 < wr.heap.size := by have := hbr.size; omega
              have hni : ¬ ((no : Int) ≤ 1) := by omega
              go_upto_region 17 with fail
              refine wp_region_calm (fun wx => wx.cell? ⟨pb, 1, none⟩ = some (.slice aoI j capI) ∧ wx.cell? ⟨bx, 7, none⟩ = some (.slice (some ⟨b6, 0, none⟩) my cap5) ∧ wx.cell? ⟨b6, j * 4 + 1, none⟩ = some (.int .i64 q.num)) 11 [10] (by kernel_rfl) (by kernel_rfl) (fun d _ _ _ _ h => by cases d <;> exact h) ⟨hP1, f7, g1'⟩ (fun hHeld => ?_)
              simp only [List.take_succ_cons, List.take_zero, List.drop_succ_cons, List.drop_zero]
              iterate 3 (refine wpCalm_q0 rfl rfl ⟨?_, ?_, ?_⟩; rotate_left; (focus (intro wx hSx; (try dsimp only at hSx); go_simp; (try with_reducible rfl))); (simp only [Act.put, List.setIfInBounds_toArray, List.set_cons_zero, List.set_cons_succ]))
              refine wpCalm_q0 rfl rfl ⟨.pointer (some ⟨bx, 4, none⟩), ?_, ?_⟩
              · intro wx hSx
                go_simp
                first | done | (intro h9; omega)
              simp only [Act.put, List.setIfInBounds_toArray, List.set_cons_zero, List.set_cons_succ]
              iterate 3 (refine wpCalm_q0 rfl rfl ⟨?_, ?_, ?_⟩; rotate_left; (focus (intro wx hSx; (try dsimp only at hSx); go_simp; (try with_reducible rfl))); (simp only [Act.put, List.setIfInBounds_toArray, List.set_cons_zero, List.set_cons_succ]))
              refine wpCalm_q0 rfl rfl ⟨.pointer (some ⟨b6, j * 4, none⟩), ?_, ?_⟩
              · intro wx hSx
                go_simp
              simp only [Act.put, List.setIfInBounds_toArray, List.set_cons_zero, List.set_cons_succ]
              iterate 2 (refine wpCalm_q0 rfl rfl ⟨?_, ?_, ?_⟩; rotate_left; (focus (intro wx hSx; (try dsimp only at hSx); go_simp; (try with_reducible rfl))); (simp only [Act.put, List.setIfInBounds_toArray, List.set_cons_zero, List.set_cons_succ]))
              refine wpCalm_s rfl rfl (fun K' hK => ?_)
              go_simp
              refine hK.out _ _ (keep3 _ _ (below_alloc1 _ _) hHeld) ?_
              clear hK K'
              try simp only [Act.put, List.setIfInBounds_toArray, List.set_cons_zero, List.set_cons_succ]
              refine wpCalm_nil ?_
              change wpList _ _ _ _ _ (World.alloc wr.drew (Obj.cells #[Value.int .i64 q.num] 3))
              have hownD : OwnL encN wr.drew w5.heap.size 3 1 (.slice aoI j capI) (ys.take j) := hown
              refine wpList_app1g rfl _ _ 45 rfl Try.underlying45 hiN hN0 hN1 hN2 rfl (by decide) (enc := encN) q.num rfl (xs := ys.take j) hownD rfl (encN_len _) (encN_one _) (by rw [hlj.out]; omega) (by rw [hlj.out]; unfold maxLen; omega) hszr (fun g cap7 w7 hown7 hgr7 => ?_)
              rw [hlj.out] at hown7 hgr7 ⊢
              rw [← htj2.out] at hown7
              have hgc : Chg (fun k => w5.heap.size ≤ k) wr w7 := (show Chg (fun k => w5.heap.size ≤ k) wr.drew w7 from (Chg.of_grown hgr7.grown).mono (fun k h1 h2 => (hown.lt k h2).1)) |> fun h => ⟨h.os, h.tape, h.output, h.size, h.block⟩
              have hP7 := hPr.chg hgc (by omega)
              have hb7 : Below wq.heap.size wq w7 := hbr.trans (hgc.below hbr.size (fun k hk e => by omega))
              have hs7 := hgc.size
              have p7 : w7.cell? ⟨pb, 1, none⟩ = some (.slice aoI (ys.take j).length capI) := hP7.cellAt rfl
              have f7 := hP7.frozen 1
              have hpq : wq.heap.size ≤ pb := by have := hpb.out; omega
              have hown8 := hown7.chg ((Chg.refl (fun k => k = pb) w7).setCell ⟨pb, 1, none⟩ (.slice (some ⟨g, 0, none⟩) (j + 1) cap7) (fun _ => rfl)) (fun g' hg' e => by have := (hown7.lt g' hg').1; omega)
              have hP8 := hP7.set 1 (.slice (some ⟨g, 0, none⟩) (j + 1) cap7)
              have hb8 := hb7.setCell (p := ⟨pb, 1, none⟩) hpq (.slice (some ⟨g, 0, none⟩) (j + 1) cap7)
              clear hgr7 hown hPr hbr hgc hown7 hP7 hb7
              go_wp2_with fail
              go_roundw
              case rel => exact ⟨j + 1, _, by omega, rfl, hP8, hown8, hb8, by simp; omega⟩
              case measure => simp [intOf]; omega
            · obtain rfl : j = my := by omega
              have hdj : decide ((j : Int) < (j : Int)) = false := by simp
              have hfull : ys.take j = ys := List.take_of_length_le (by rw [← hmy.out]; exact Nat.le_refl _)
              rw [hfull] at hown hPr hlj
              obtain ⟨aoJ, capJ, hej, hsI⟩ := SlP.of_ints (D := fun k => w5.heap.size ≤ k ∧ k < wr.heap.size) hown hwys.out (fun g hg => hown.lt g hg)
              simp only [Value.slice.injEq] at hej
              obtain ⟨rfl, _, rfl⟩ := hej
              obtain ⟨p, hp⟩ : ∃ p : POp, p = ⟨⟨a0, ys, a2, u3, a4, a5, u6⟩, aoI, capI⟩ := ⟨_, rfl⟩
              have hpx : p.x = gOp o := by rw [hp, hgo.out]
              have hpI : InP (fun k => wq.heap.size ≤ k ∧ k < wr.heap.size) wr p := by
                rw [hp]
                exact ⟨⟨hza0, hwys.out, hza2, by rw [hu3.out, ← wrap_mod]; exact wrap_u32_wf _, hza4, hza5, by rw [hu6.out, ← wrap_mod]; exact wrap_u32_wf _⟩, hsI.imp (fun k hk => ⟨⟨by omega, hk.2⟩, rfl⟩) (fun _ _ _ h => h)⟩
              have hGr := hG.below hbr
              have hopsi := hops.below hbr (Nat.le_refl _)
              obtain ⟨nI, hnI⟩ : ∃ k, k = ys.length := ⟨_, rfl⟩
              rw [← hnI] at hPr
              obtain ⟨k0', k1', k2', k3', k4', k5', k6'⟩ := blk7 hPr
              have hE6 : wr.cell? ⟨eb, 6, none⟩ = some v := hGr.he.cellAt rfl
              obtain ⟨aov, capv, hvv2, _, _, _⟩ := hops.1.slice
              subst hvv2
              have hebs : eb + 1 ≤ wr.heap.size := hGr.he.lt
              have hebq : eb + 1 ≤ wq.heap.size := hG.he.lt
              rw [hpsl.out] at hE6 hGr hopsi
              have hpe : (#[.int .i64 a0, .slice aoI nI capI, .int .i64 a2, .int .u32 u3, .int .i64 a4, .int .i64 a5, .int .u32 u6] : Array Value) = (encO p).toArray := by rw [hp, hnI]; rfl
              replace hpe := Lib.hid hpe
              replace hp := Lib.hid hp
              replace hpx := Lib.hid hpx
              replace hnI := Lib.hid hnI
              clear hPr hown hsI
              go_wp2_with (at_builtin; refine Shut.out ?kap1)
              unfold Shut
              rw [hpe.out]
              refine wpList_app1g rfl _ _ 25 rfl Try.underlying25 hiO hO0 hO1 hO2 rfl (by decide) (enc := encO) p rfl hopsi.1 rfl (encO_len _) (encO_one _) (by rw [hpsl.out]; omega) (by rw [hpsl.out]; unfold maxLen; omega) hebs (fun g cap7 w7 hown7 hgr7 => ?_)
              rw [hpsl.out] at hown7 hgr7 ⊢
              have hgc : Chg (fun k => eb + 1 ≤ k) wr w7 := (Chg.of_grown hgr7.grown).mono (fun k h1 h2 => (hopsi.1.lt k h2).1)
              have hopsq := hops
              rw [hpsl.out] at hopsq
              have hops7 := hopsq.snoc (S := fun _ => False) hebq ((Chg.of_below hbr).mono (fun k h1 h2 => absurd h2 (by omega))) (fun k hk e => e) hown7 hgr7 hpI
              have hG7 := hGr.chg hgc (fun k hk e => by omega)
              have e7' : w7.cell? ⟨eb, 6, none⟩ = some (.slice aov i capv) := hG7.he.cellAt rfl
              have f7' := hG7.he.frozen 6
              have hset := (Chg.refl (fun k => k = eb) w7).setCell ⟨eb, 6, none⟩ (.slice (some ⟨g, 0, none⟩) (i + 1) cap7) (fun _ => rfl)
              have hops8 := hops7.chg hset (fun k hk e => by omega)
              have hG8 := hG7.setE (i := 6) (y := .slice (some ⟨g, 0, none⟩) (i + 1) cap7) (v := .slice (some ⟨g, 0, none⟩) (i + 1) cap7) (x := ⟨3, zRec, ⟨(ps ++ [p]).map (·.x)⟩, 0⟩) rfl
              clear hgr7 hopsi hops hopsq hG hGr hgc hG7 hown7 hops7 hset hpI k0' k1' k2' k3' k4' k5' k6' hE6
              go_wp2_with fail
              go_roundw
              case rel => exact ⟨i + 1, ps ++ [p], _, by omega, rfl, hG8, hops8, by rw [List.map_append, hpm.out, hti2.out, List.map_singleton, hpx.out]⟩
              case measure => simp [intOf]; omega
        · have hd2 : decide ((1 : Int) < (no : Int)) = false := by simp; omega
          rw [List.getElem?_eq_none (by rw [← hno.out]; omega)] at hys2
          dsimp only at hys2
          replace hys2 := Lib.hid hys2
          go_wp2_with fail
          go_loopw [7] (fun x7 wr => ∃ (vin : Value), x7 = .int .i64 0 ∧ Blk wr pb #[.int .i64 a0, vin, .int .i64 a2, .int .u32 u3, .int .i64 a4, .int .i64 a5, .int .u32 u6] 47 ∧
            OwnL encN wr w5.heap.size 3 1 vin ys ∧ Below wq.heap.size wq wr) (fun x7 _ => 0)
          case atStart => exact ⟨_, rfl, hP5, by rw [hys2.out]; exact OwnL.nil _ _ _ _ _, hb5⟩
          case round =>
            clear hP5 hb5
            obtain ⟨vin, rfl, hPr, hown, hbr⟩ := hrel
            obtain ⟨aoI, capI, hvv, _, _, _⟩ := hown.slice
            subst hvv
            obtain ⟨aoJ, capJ, hej, hsI⟩ := SlP.of_ints (D := fun k => w5.heap.size ≤ k ∧ k < wr.heap.size) hown hwys.out (fun g hg => hown.lt g hg)
            simp only [Value.slice.injEq] at hej
            obtain ⟨rfl, _, rfl⟩ := hej
            obtain ⟨p, hp⟩ : ∃ p : POp, p = ⟨⟨a0, ys, a2, u3, a4, a5, u6⟩, aoI, capI⟩ := ⟨_, rfl⟩
            have hpx : p.x = gOp o := by rw [hp, hgo.out]
            have hpI : InP (fun k => wq.heap.size ≤ k ∧ k < wr.heap.size) wr p := by
              rw [hp]
              exact ⟨⟨hza0, hwys.out, hza2, by rw [hu3.out, ← wrap_mod]; exact wrap_u32_wf _, hza4, hza5, by rw [hu6.out, ← wrap_mod]; exact wrap_u32_wf _⟩, hsI.imp (fun k hk => ⟨⟨by omega, hk.2⟩, rfl⟩) (fun _ _ _ h => h)⟩
            have hGr := hG.below hbr
            have hopsi := hops.below hbr (Nat.le_refl _)
            obtain ⟨nI, hnI⟩ : ∃ k, k = ys.length := ⟨_, rfl⟩
            rw [← hnI] at hPr
            obtain ⟨k0', k1', k2', k3', k4', k5', k6'⟩ := blk7 hPr
            have hE6 : wr.cell? ⟨eb, 6, none⟩ = some v := hGr.he.cellAt rfl
            obtain ⟨aov, capv, hvv2, _, _, _⟩ := hops.1.slice
            subst hvv2
            have hebs : eb + 1 ≤ wr.heap.size := hGr.he.lt
            have hebq : eb + 1 ≤ wq.heap.size := hG.he.lt
            rw [hpsl.out] at hE6 hGr hopsi
            have hpe : (#[.int .i64 a0, .slice aoI nI capI, .int .i64 a2, .int .u32 u3, .int .i64 a4, .int .i64 a5, .int .u32 u6] : Array Value) = (encO p).toArray := by rw [hp, hnI]; rfl
            replace hpe := Lib.hid hpe
            replace hp := Lib.hid hp
            replace hpx := Lib.hid hpx
            replace hnI := Lib.hid hnI
            clear hPr hown hsI
            go_wp2_with (at_builtin; refine Shut.out ?kap2)
            unfold Shut
            rw [hpe.out]
            refine wpList_app1g rfl _ _ 25 rfl Try.underlying25 hiO hO0 hO1 hO2 rfl (by decide) (enc := encO) p rfl hopsi.1 rfl (encO_len _) (encO_one _) (by rw [hpsl.out]; omega) (by rw [hpsl.out]; unfold maxLen; omega) hebs (fun g cap7 w7 hown7 hgr7 => ?_)
            rw [hpsl.out] at hown7 hgr7 ⊢
            have hgc : Chg (fun k => eb + 1 ≤ k) wr w7 := (Chg.of_grown hgr7.grown).mono (fun k h1 h2 => (hopsi.1.lt k h2).1)
            have hopsq := hops
            rw [hpsl.out] at hopsq
            have hops7 := hopsq.snoc (S := fun _ => False) hebq ((Chg.of_below hbr).mono (fun k h1 h2 => absurd h2 (by omega))) (fun k hk e => e) hown7 hgr7 hpI
            have hG7 := hGr.chg hgc (fun k hk e => by omega)
            have e7' : w7.cell? ⟨eb, 6, none⟩ = some (.slice aov i capv) := hG7.he.cellAt rfl
            have f7' := hG7.he.frozen 6
            have hset := (Chg.refl (fun k => k = eb) w7).setCell ⟨eb, 6, none⟩ (.slice (some ⟨g, 0, none⟩) (i + 1) cap7) (fun _ => rfl)
            have hops8 := hops7.chg hset (fun k hk e => by omega)
            have hG8 := hG7.setE (i := 6) (y := .slice (some ⟨g, 0, none⟩) (i + 1) cap7) (v := .slice (some ⟨g, 0, none⟩) (i + 1) cap7) (x := ⟨3, zRec, ⟨(ps ++ [p]).map (·.x)⟩, 0⟩) rfl
            clear hgr7 hopsi hops hopsq hG hGr hgc hG7 hown7 hops7 hset hpI k0' k1' k2' k3' k4' k5' k6' hE6
            go_wp2_with fail
            go_roundw
            case rel => exact ⟨i + 1, ps ++ [p], _, by omega, rfl, hG8, hops8, by rw [List.map_append, hpm.out, hti2.out, List.map_singleton, hpx.out]⟩
            case measure => simp [intOf]; omega
      · obtain rfl : i = m := by omega
        have hdi : decide ((i : Int) < (i : Int)) = false := by simp
        have hfull : x1.lst.take i = x1.lst := List.take_of_length_le (by rw [← hm.out]; exact Nat.le_refl _)
        rw [hfull] at hpm
        have hRw := hRv.out
        subst hRw
        have hopw : ∀ u, Chg (fun k => k = rb) wr u → OpsR w.heap.size u v ps := fun u hu => (hops.chg hu (fun k hk e => by have := hG.o2; omega)).base_le (by have := hG.o1; have := hG.o2; omega)
        obtain ⟨aov, capv, hvv2, _, _, _⟩ := hops.1.slice
        subst hvv2
        obtain ⟨g0, g1, g2, g3, g4, g5, g6, g7⟩ := blk8 hG.he
        obtain ⟨q0, q1, q2, q3, q4, q5, q6, q7⟩ := blk8 hG.hr
        have qf := fun i => hG.hr.frozen i
        have hGb := hG.bel
        have hGr := hG.hr
        have hG1 := hG.o1
        have hG2' := hG.o2
        replace hopw := Lib.hid hopw
        replace hpm := Lib.hid hpm
        clear hG hops
        go_wp2_with fail
        refine bodyPost_ret (results_cell_row rfl _ _ rb 29 _ (0, 0) _ rfl ((((((((hGr.set 0 _).set 1 _).set 2 _).set 3 _).set 4 _).set 5 _).set 6 _).set 7 _) Try.underlying29 rfl (by kernel_rfl)) rfl ?_
        exact ⟨(by repeat (first | with_reducible assumption | with_reducible exact Below.refl _ _ | with_reducible refine below_drewN ?_ _ | with_reducible refine Below.drew ?_ | (refine Below.setCell ?_ (by first | omega | (simp; omega) | simp) _) | (refine Below.alloc ?_ (by first | omega | (simp; omega) | simp) _) | (refine Below.trans ?_ (Below.mono (by with_reducible assumption) (by first | omega | (simp; omega) | simp))))), _, ps, rfl, hopw.out _ (by
          repeat (refine Chg.setCell ?_ _ _ (fun _ => rfl))
          exact Chg.refl _ _), hpm.out⟩
  have c1 : (k == 1) = false := by simpa using k1
  have c3 : (k == 3) = false := by simpa using k3
  have hRv := hR.out
  rw [if_neg k1, if_neg k3] at hRv
  have hA := hat.out w2 1 hG2.bel (by omega)
  obtain ⟨m1, hm1⟩ : ∃ k, k = atN l 1 := ⟨_, rfl⟩
  rw [← hm1] at hA hRv
  subst hRv
  clear hm1
  go_wp2_with (go_at_call 39; refine Shut.out ?k1)
  unfold Shut
  refine hA.mono ?_
  rintro e w3 ⟨rfl, rfl⟩
  dsimp only
  clear hA
  have e7 : w3.cell? ⟨eb, 7, none⟩ = some (.int .i64 0) := hG2.he.cellAt rfl
  have f7 := hG2.he.frozen 7
  go_upto_region 19 with fail
  refine Code.wp_world ?_
  intro w4 hw4
  have hG4 : GS w w4 rb eb ⟨k, zRec, ⟨[]⟩, m1⟩ (.slice none 0 0) := by rw [hw4]; exact hG2.setE rfl
  clear hw4 hG2 ek e7 f7
  obtain ⟨g0, g1, g2, g3, g4, g5, g6, g7⟩ := blk8 hG4.he
  obtain ⟨q0, q1, q2, q3, q4, q5, q6, q7⟩ := blk8 hG4.hr
  have qf := fun i => hG4.hr.frozen i
  have hGb := hG4.bel
  have hGr := hG4.hr
  have hG1 := hG4.o1
  have hG2' := hG4.o2
  clear hG4
  go_wp2_with fail
  refine bodyPost_ret (results_cell_row rfl _ _ rb 29 _ (0, 0) _ rfl ((((((((hGr.set 0 _).set 1 _).set 2 _).set 3 _).set 4 _).set 5 _).set 6 _).set 7 _) Try.underlying29 rfl (by kernel_rfl)) rfl ?_
  refine ⟨(by repeat (first | with_reducible assumption | with_reducible exact Below.refl _ _ | with_reducible refine below_drewN ?_ _ | with_reducible refine Below.drew ?_ | (refine Below.setCell ?_ (by first | omega | (simp; omega) | simp) _) | (refine Below.alloc ?_ (by first | omega | (simp; omega) | simp) _) | (refine Below.trans ?_ (Below.mono (by with_reducible assumption) (by first | omega | (simp; omega) | simp))))), _, [], rfl, OpsR.nil _ _, rfl⟩
end Go.Proofs.Ytcigbobihkkdiaa

/- Entry: the reference's Decode, Same. -/
namespace Go.Proofs.Ytcigbobihkkdiaa
open Go.RowKit
set_option linter.unusedVariables false
set_option linter.unusedSimpArgs false

theorem OpsR.encE {base : Nat} {w : World} {v : Value} {ps : List POp} {x : TEntry} (h : OpsR base w v ps) (hp : ps.map (·.x) = x.fGraph.fOps) : ∃ ao cap, v = .slice ao x.fGraph.fOps.length cap ∧ SlA w.heap.size 7 (ROp w.heap.size) w ao cap x.fGraph.fOps ∧ encV8 x v = Go.Proofs.Ytcigbobihkkdiaa.encE x ao cap := by
  obtain ⟨ao, cap, hv, hs⟩ := h.sla
  rw [hp] at hs
  have hl : ps.length = x.fGraph.fOps.length := by rw [← hp, List.length_map]
  rw [hl] at hv
  exact ⟨ao, cap, hv, hs, by rw [hv]; rfl⟩
theorem OpsR.wfs {base : Nat} {w : World} {v : Value} {ps : List POp} (h : OpsR base w v ps) : ∀ o ∈ ps.map (·.x), wfO o := by
  intro o ho
  obtain ⟨p, hp, rfl⟩ := List.mem_map.1 ho
  exact (h.2 p hp).1

set_option maxRecDepth 100000 in
set_option maxHeartbeats 2000000 in
theorem rdecode_any (s : ByteArray) (w : World) (hs : s.size ≤ maxLen) : Calls Try.prog 14 #[.string s] w (EDecR w (rdV (txtB s))) := by
  obtain ⟨R, hR⟩ : ∃ r, r = rdV (txtB s) := ⟨_, rfl⟩
  rw [← hR]
  unfold rdV at hR
  go_enter Try.func14, Try.ntmps14
  go_upto_region 1 with fail
  refine Code.wp_world ?_
  intro w1 hw1
  obtain ⟨rb, hrb⟩ : ∃ c, c = w.heap.size := ⟨_, rfl⟩
  have hb1 : Below w.heap.size w w1 := by rw [hw1]; exact below_alloc1 w _
  have hC1 : Blk w1 rb (encV8 zEnt (.slice none 0 0)) 29 := by rw [hw1, hrb]; exact Blk.new _ _ _
  rw [← hrb]
  clear hw1
  replace hrb := Lib.hid hrb
  by_cases hs0 : s.size = 0
  · obtain rfl := empty_bytes hs0
    rw [if_pos (by rfl)] at hR
    subst hR
    obtain ⟨q0, q1, q2, q3, q4, q5, q6, q7⟩ := blk8 hC1
    have qf := fun i => hC1.frozen i
    have hbq := Nat.le_of_eq hrb.out.symm
    go_wp2_with fail
    refine bodyPost_ret (results_cell_tmp rfl _ _ rb _ rfl (run_loadVar_row _ rb 29 _ _ (0, 0) _ ((((((((hC1.set 0 _).set 1 _).set 2 _).set 3 _).set 4 _).set 5 _).set 6 _).set 7 _) Try.underlying29 rfl (by kernel_rfl))) rfl ?_
    exact ⟨(by repeat (first | with_reducible assumption | with_reducible exact Below.refl _ _ | with_reducible refine below_drewN ?_ _ | with_reducible refine Below.drew ?_ | (refine Below.setCell ?_ (by first | omega | (simp; omega) | simp) _) | (refine Below.alloc ?_ (by first | omega | (simp; omega) | simp) _) | (refine Below.trans ?_ (Below.mono (by with_reducible assumption) (by first | omega | (simp; omega) | simp))))), .slice none 0 0, [], rfl, OpsR.nil _ _, rfl⟩
  have hsn := nonempty_bytes (s := s) (by omega)
  have hsl : (s.toList == ([] : List UInt8)) = false := by rw [key_zero]; simpa using hs0
  have htn : ¬ txtB s = [] := fun h => hs0 (by have := congrArg List.length h; rw [txtB_len] at this; simpa using this)
  rw [if_neg htn] at hR
  obtain ⟨cap2, w2, hcv, hb12, hby⟩ := str_bytes s w1 hs
  have hD := refDecode_any (txtB s) (txtB_lt s) _ cap2 w2 hby
  rw [txtB_len] at hD
  obtain ⟨⟨n, l⟩, hnl⟩ : ∃ r, r = decV (txtB s) := ⟨_, rfl⟩
  rw [← hnl] at hD hR
  dsimp only at hR
  clear hby
  replace hR := Lib.hid hR
  go_wp2_with (go_at_call 27; refine Shut.out ?kd)
  unfold Shut
  refine hD.mono ?_
  rintro e w3 ⟨hb23, ao3, cap3, rfl, hit3⟩
  dsimp only at hit3 ⊢
  clear hD hcv
  have hb13 : Below w1.heap.size w1 w3 := Below.trans hb12 (Below.mono hb23 hb12.size)
  have hb3 : Below w.heap.size w w3 := Below.trans hb1 (Below.mono hb13 hb1.size)
  have hC3 := hC1.below hb13 hC1.lt
  obtain ⟨q0, q1, q2, q3, q4, q5, q6, q7⟩ := blk8 hC3
  have qf := fun i => hC3.frozen i
  have hbq := Nat.le_of_eq hrb.out.symm
  clear hC1 hb1 hb12 hb13 hs0 htn hb23
  by_cases hn0 : n = 0
  case neg =>
    have hnd : ((n : Int) != 0) = true := by simpa using hn0
    have hRv := hR.out
    rw [if_pos hn0] at hRv
    subst hRv
    go_wp2_with fail
    refine bodyPost_ret (results_cell_tmp rfl _ _ rb _ rfl (run_loadVar_row _ rb 29 _ _ (0, 0) _ ((((((((hC3.set 0 _).set 1 _).set 2 _).set 3 _).set 4 _).set 5 _).set 6 _).set 7 _) Try.underlying29 rfl (by kernel_rfl))) rfl ?_
    exact ⟨(by repeat (first | with_reducible assumption | with_reducible exact Below.refl _ _ | with_reducible refine below_drewN ?_ _ | with_reducible refine Below.drew ?_ | (refine Below.setCell ?_ (by first | omega | (simp; omega) | simp) _) | (refine Below.alloc ?_ (by first | omega | (simp; omega) | simp) _) | (refine Below.trans ?_ (Below.mono (by with_reducible assumption) (by first | omega | (simp; omega) | simp))))), .slice none 0 0, [], rfl, OpsR.nil _ _, rfl⟩
  subst hn0
  rw [show ((0 : Nat) : Int) = 0 from rfl]
  have hnd : ((0 : Int) != 0) = false := rfl
  have hRv := hR.out
  rw [if_neg (by simp)] at hRv
  unfold rdO at hRv
  by_cases hl0 : l = []
  · subst hl0
    have hRw : R = (zEnt, 3) := by rw [hRv]; simp
    subst hRw
    clear hRv hR hit3 hnl
    rw [List.length_nil]
    go_wp2_with fail
    refine bodyPost_ret (results_cell_tmp rfl _ _ rb _ rfl (run_loadVar_row _ rb 29 _ _ (0, 0) _ ((((((((hC3.set 0 _).set 1 _).set 2 _).set 3 _).set 4 _).set 5 _).set 6 _).set 7 _) Try.underlying29 rfl (by kernel_rfl))) rfl ?_
    exact ⟨(by repeat (first | with_reducible assumption | with_reducible exact Below.refl _ _ | with_reducible refine below_drewN ?_ _ | with_reducible refine Below.drew ?_ | (refine Below.setCell ?_ (by first | omega | (simp; omega) | simp) _) | (refine Below.alloc ?_ (by first | omega | (simp; omega) | simp) _) | (refine Below.trans ?_ (Below.mono (by with_reducible assumption) (by first | omega | (simp; omega) | simp))))), .slice none 0 0, [], rfl, OpsR.nil _ _, rfl⟩
  have hll : 0 < l.length := List.length_pos_iff.2 hl0
  have hcl : cntL l ≤ 4096 := by
    have hE := enc_dec (txtB_lt s) hnl.symm
    have h1 := chkL_ok l 1 0 (by
      unfold encV at hE
      by_cases hc : (chkL l 1 0).2 = 0
      · exact hc
      · rw [if_pos hc] at hE; simp at hE; omega)
    have := h1.2.2 (by omega)
    omega
  have hwl : wfL l := (hit3.rits (B := w3.heap.size) (fun b hb => hb.2)).wf
  have hwE := gE_wfE hwl
  have hGu := guess_any _ l ao3 cap3 w3 hit3 (fun b hb => hb.2) hcl
  obtain ⟨x, hx⟩ : ∃ x, x = gE l := ⟨_, rfl⟩
  rw [← hx] at hGu hwE hRv
  obtain ⟨nl, hnl2⟩ : ∃ k, k = l.length := ⟨_, rfl⟩
  rw [← hnl2] at hGu hll ⊢
  rw [decide_eq_true hl0, Bool.true_and] at hRv
  have hlt0 : ((nl : Int) == 0) = false := by simp; omega
  replace hRv := Lib.hid hRv
  clear hR hl0 hnl hx hnl2 hcl hwl hit3 q0 q1 q2 q3 q4 q5 q6 q7 qf
  go_wp2_with (go_at_call 28; refine Shut.out ?kg)
  unfold Shut
  refine hGu.mono ?_
  rintro e w4 ⟨hb34, v, ps, rfl, hops, hpm⟩
  dsimp only
  have hb4 := hb3.trans (hb34.mono hb3.size)
  have hC4 := hC3.below hb34 hC3.lt
  have hs34 := hb3.size
  obtain ⟨ao, cap, rfl, hsl4, hee⟩ := hops.encE hpm
  have hrb3 : rb < w3.heap.size := hC3.lt
  clear hGu hC3 hee
  unfold encV8
  go_upto_region 7 with fail
  refine Code.wp_world ?_
  intro w5 hw5
  obtain ⟨eb, heb⟩ : ∃ c, c = w4.heap.size := ⟨_, rfl⟩
  have hE5 : Blk w5 eb #[.int .i64 x.fKind, .int .i64 x.fRec.fProducer, .int .i64 x.fRec.fSeq, .int .i64 x.fRec.fPart, .string x.fRec.fKey, .int .u32 x.fRec.fVal, .slice ao x.fGraph.fOps.length cap, .int .i64 x.fN] 29 := by rw [hw5, heb]; exact Blk.new _ _ _
  have hb45 : Below w4.heap.size w4 w5 := by rw [hw5]; exact below_alloc1 _ _
  have hre : rb < eb := by rw [heb]; exact hC4.lt
  rw [← heb]
  clear hw5 heb
  have hC5 := hC4.below hb45 hC4.lt
  have hb5 := hb4.trans (hb45.mono hb4.size)
  have hops5 := hops.below hb45 (Nat.le_refl _)
  obtain ⟨z0, z1, z2, z3, z5, z7, _⟩ := hwE
  have hEn := rencode_any x ao cap w5 w4.heap.size hb45.size (ops_imp hsl4 hb45) z0 z1 z2 z3 z5 z7
  unfold encE at hEn
  obtain ⟨⟨T, E⟩, hT⟩ : ∃ t, t = entV x := ⟨_, rfl⟩
  rw [← hT] at hEn hRv
  dsimp only at hEn
  obtain ⟨no, hno⟩ : ∃ k, k = x.fGraph.fOps.length := ⟨_, rfl⟩
  rw [← hno] at hEn hE5 hops5
  have hTlt : ∀ b ∈ T, b < 256 := by
    have h1 := encV_lt (entI x)
    have h2 : T = (entV x).1 := by rw [← hT]
    rw [h2]
    unfold entV
    split
    · simp
    · split
      · simp
      · exact h1
  have hcmp : ((toB T).toList == s.toList) = decide (T = txtB s) := by
    have := toB_eq hTlt (txtB_lt s)
    rw [toB_txt] at this
    by_cases hb : T = txtB s
    · rw [this.2 hb, decide_eq_true hb]
    · rw [decide_eq_false hb]
      cases hcc : (toB T).toList == s.toList with
      | false => rfl
      | true => exact absurd (this.1 hcc) hb
  obtain ⟨tb, htb⟩ : ∃ t, t = toB T := ⟨_, rfl⟩
  rw [← htb] at hEn hcmp
  obtain ⟨q, hq⟩ : ∃ q, q = decide (T = txtB s) := ⟨_, rfl⟩
  rw [← hq] at hcmp
  have hRx : R = if E = 0 ∧ q = true then (x, 0) else (zEnt, 3) := by
    rw [hRv.out]
    by_cases h : (T, E) = (txtB s, 0)
    · rw [if_pos (decide_eq_true h)]
      simp only [Prod.mk.injEq] at h
      rw [if_pos ⟨h.2, by rw [hq, h.1]; simp⟩]
    · rw [decide_eq_false h, if_neg (by simp), if_neg]
      rintro ⟨h1, h2⟩
      rw [hq] at h2
      exact h (by rw [of_decide_eq_true h2, h1])
  replace hRx := Lib.hid hRx
  clear hRv hT htb hq hTlt hops hsl4 hC4 hno
  obtain ⟨c0, c1, c2, c3, c4, c5, c6, c7⟩ := blk8 hE5
  go_wp2_with (go_at_call 9; refine Shut.out ?ke)
  unfold Shut
  refine hEn.mono ?_
  rintro e w6 ⟨rfl, hb56⟩
  dsimp only
  have hb6 := hb5.trans (hb56.mono hb5.size)
  have hC6 := hC5.below hb56 hC5.lt
  have hE6 := hE5.below hb56 hE5.lt
  have hops6 := hops5.below hb56 (Nat.le_refl _)
  clear hEn c0 c1 c2 c3 c4 c5 c6 c7 hC5 hE5 hops5
  obtain ⟨q0, q1, q2, q3, q4, q5, q6, q7⟩ := blk8 hC6
  have qf := fun i => hC6.frozen i
  have hfin : ∀ u : World, Chg (fun k => k = rb) w6 u → OpsR w.heap.size u (.slice ao no cap) ps := fun u hu => (hops6.chg hu (fun k hk e => by omega)).base_le hs34
  replace hfin := Lib.hid hfin
  replace hpm := Lib.hid hpm
  have hcmp2 : (tb.toList != s.toList) = !q := by rw [bne, hcmp]
  clear hops6
  by_cases hE0 : E = 0
  case neg =>
    have hEd : ((E : Int) != 0) = true := by simpa using hE0
    have hRw := hRx.out
    rw [if_neg (by rintro ⟨h1, _⟩; exact hE0 h1)] at hRw
    subst hRw
    clear hRx
    go_wp2_with fail
    refine bodyPost_ret (results_cell_tmp rfl _ _ rb _ rfl (run_loadVar_row _ rb 29 _ _ (0, 0) _ ((((((((hC6.set 0 _).set 1 _).set 2 _).set 3 _).set 4 _).set 5 _).set 6 _).set 7 _) Try.underlying29 rfl (by kernel_rfl))) rfl ?_
    exact ⟨(by repeat (first | with_reducible assumption | with_reducible exact Below.refl _ _ | with_reducible refine below_drewN ?_ _ | with_reducible refine Below.drew ?_ | (refine Below.setCell ?_ (by first | omega | (simp; omega) | simp) _) | (refine Below.alloc ?_ (by first | omega | (simp; omega) | simp) _) | (refine Below.trans ?_ (Below.mono (by with_reducible assumption) (by first | omega | (simp; omega) | simp))))), .slice none 0 0, [], rfl, OpsR.nil _ _, rfl⟩
  subst hE0
  rw [show ((0 : Nat) : Int) = 0 from rfl]
  cases q with
  | false =>
    have hRw := hRx.out
    rw [if_neg (by simp)] at hRw
    subst hRw
    clear hRx
    go_wp2_with fail
    refine bodyPost_ret (results_cell_tmp rfl _ _ rb _ rfl (run_loadVar_row _ rb 29 _ _ (0, 0) _ ((((((((hC6.set 0 _).set 1 _).set 2 _).set 3 _).set 4 _).set 5 _).set 6 _).set 7 _) Try.underlying29 rfl (by kernel_rfl))) rfl ?_
    exact ⟨(by repeat (first | with_reducible assumption | with_reducible exact Below.refl _ _ | with_reducible refine below_drewN ?_ _ | with_reducible refine Below.drew ?_ | (refine Below.setCell ?_ (by first | omega | (simp; omega) | simp) _) | (refine Below.alloc ?_ (by first | omega | (simp; omega) | simp) _) | (refine Below.trans ?_ (Below.mono (by with_reducible assumption) (by first | omega | (simp; omega) | simp))))), .slice none 0 0, [], rfl, OpsR.nil _ _, rfl⟩
  | true =>
    have hRw := hRx.out
    rw [if_pos ⟨rfl, rfl⟩] at hRw
    subst hRw
    clear hRx
    obtain ⟨c0, c1, c2, c3, c4, c5, c6, c7⟩ := blk8 hE6
    go_wp2_with fail
    refine bodyPost_ret (results_cell_tmp rfl _ _ rb _ rfl (run_loadVar_row _ rb 29 _ _ (0, 0) _ ((((((((hC6.set 0 _).set 1 _).set 2 _).set 3 _).set 4 _).set 5 _).set 6 _).set 7 _) Try.underlying29 rfl (by kernel_rfl))) rfl ?_
    exact ⟨(by repeat (first | with_reducible assumption | with_reducible exact Below.refl _ _ | with_reducible refine below_drewN ?_ _ | with_reducible refine Below.drew ?_ | (refine Below.setCell ?_ (by first | omega | (simp; omega) | simp) _) | (refine Below.alloc ?_ (by first | omega | (simp; omega) | simp) _) | (refine Below.trans ?_ (Below.mono (by with_reducible assumption) (by first | omega | (simp; omega) | simp))))), _, ps, rfl, hfin.out _ (by
      repeat (refine Chg.setCell ?_ _ _ (fun _ => rfl))
      exact Chg.refl _ _), hpm.out⟩
end Go.Proofs.Ytcigbobihkkdiaa

/- Entry: the reference's Same. -/
namespace Go.Proofs.Ytcigbobihkkdiaa
open Go.RowKit
set_option linter.unusedVariables false
set_option linter.unusedSimpArgs false

set_option maxHeartbeats 1000000 in
theorem sameRec_any (a b : TRecord) (w : World) :
    Calls Try.prog 29 #[.agg (encR a), .agg (encR b)] w fun e w' => (∃ g, e = .returned (.bool g) ∧ (g = true ↔ a = b)) ∧ Below w.heap.size w w' := by
  have hkk : (a.fKey.toList == b.fKey.toList) = decide (a.fKey = b.fKey) := by
    by_cases h : a.fKey = b.fKey
    · rw [h]; simp
    · rw [decide_eq_false h]
      cases hcc : a.fKey.toList == b.fKey.toList with
      | false => rfl
      | true =>
        exfalso
        have h1 : a.fKey.toList = b.fKey.toList := by simpa using hcc
        rw [ByteArray.toList_eq, ByteArray.toList_eq] at h1
        have h2 := Array.toList_inj.1 h1
        apply h
        cases ha : a.fKey
        cases hb : b.fKey
        rw [ha, hb] at h2
        simpa using h2
  have hiff : a = b ↔ a.fProducer = b.fProducer ∧ a.fSeq = b.fSeq ∧ a.fPart = b.fPart ∧ a.fKey = b.fKey ∧ a.fVal = b.fVal := by
    constructor
    · rintro rfl; exact ⟨rfl, rfl, rfl, rfl, rfl⟩
    · rintro ⟨h1, h2, h3, h4, h5⟩
      cases a; cases b
      simp_all
  suffices h : Calls Try.prog 29 #[.agg (encR a), .agg (encR b)] w fun e w' => e = .returned (.bool (decide (a.fProducer = b.fProducer) && decide (a.fSeq = b.fSeq) && decide (a.fPart = b.fPart) && decide (a.fKey = b.fKey) && decide (a.fVal = b.fVal))) ∧ Below w.heap.size w w' by
    refine h.mono ?_
    rintro e w' ⟨rfl, hb⟩
    refine ⟨⟨_, rfl, ?_⟩, hb⟩
    rw [hiff]
    simp [and_assoc]
  unfold encR
  clear hiff
  by_cases h1 : a.fProducer = b.fProducer
  case neg =>
    have e1 : (a.fProducer == b.fProducer) = false := by simpa using h1
    rw [decide_eq_false h1]
    clear hkk
    go_enter Try.func29, Try.ntmps29
    go_wp2_with fail
    go_ret
    exact ⟨rfl, (by repeat (first | with_reducible assumption | with_reducible exact Below.refl _ _ | with_reducible refine below_drewN ?_ _ | with_reducible refine Below.drew ?_ | (refine Below.setCell ?_ (by first | omega | (simp; omega) | simp) _) | (refine Below.alloc ?_ (by first | omega | (simp; omega) | simp) _) | (refine Below.trans ?_ (Below.mono (by with_reducible assumption) (by first | omega | (simp; omega) | simp)))))⟩
  have e1 : (a.fProducer == b.fProducer) = true := by simpa using h1
  by_cases h2 : a.fSeq = b.fSeq
  case neg =>
    have e2 : (a.fSeq == b.fSeq) = false := by simpa using h2
    rw [decide_eq_true h1, decide_eq_false h2]
    clear hkk h1
    go_enter Try.func29, Try.ntmps29
    go_wp2_with fail
    go_ret
    exact ⟨rfl, (by repeat (first | with_reducible assumption | with_reducible exact Below.refl _ _ | with_reducible refine below_drewN ?_ _ | with_reducible refine Below.drew ?_ | (refine Below.setCell ?_ (by first | omega | (simp; omega) | simp) _) | (refine Below.alloc ?_ (by first | omega | (simp; omega) | simp) _) | (refine Below.trans ?_ (Below.mono (by with_reducible assumption) (by first | omega | (simp; omega) | simp)))))⟩
  have e2 : (a.fSeq == b.fSeq) = true := by simpa using h2
  by_cases h3 : a.fPart = b.fPart
  case neg =>
    have e3 : (a.fPart == b.fPart) = false := by simpa using h3
    rw [decide_eq_true h1, decide_eq_true h2, decide_eq_false h3]
    clear hkk h1 h2
    go_enter Try.func29, Try.ntmps29
    go_wp2_with fail
    go_ret
    exact ⟨rfl, (by repeat (first | with_reducible assumption | with_reducible exact Below.refl _ _ | with_reducible refine below_drewN ?_ _ | with_reducible refine Below.drew ?_ | (refine Below.setCell ?_ (by first | omega | (simp; omega) | simp) _) | (refine Below.alloc ?_ (by first | omega | (simp; omega) | simp) _) | (refine Below.trans ?_ (Below.mono (by with_reducible assumption) (by first | omega | (simp; omega) | simp)))))⟩
  have e3 : (a.fPart == b.fPart) = true := by simpa using h3
  by_cases h4 : a.fKey = b.fKey
  case neg =>
    rw [decide_eq_false h4] at hkk
    rw [decide_eq_true h1, decide_eq_true h2, decide_eq_true h3, decide_eq_false h4]
    clear h1 h2 h3
    go_enter Try.func29, Try.ntmps29
    go_wp2_with fail
    go_ret
    exact ⟨rfl, (by repeat (first | with_reducible assumption | with_reducible exact Below.refl _ _ | with_reducible refine below_drewN ?_ _ | with_reducible refine Below.drew ?_ | (refine Below.setCell ?_ (by first | omega | (simp; omega) | simp) _) | (refine Below.alloc ?_ (by first | omega | (simp; omega) | simp) _) | (refine Below.trans ?_ (Below.mono (by with_reducible assumption) (by first | omega | (simp; omega) | simp)))))⟩
  rw [decide_eq_true h4] at hkk
  have e5 : (a.fVal == b.fVal) = decide (a.fVal = b.fVal) := by
    by_cases h5 : a.fVal = b.fVal
    · simp [h5]
    · simp [h5]
  obtain ⟨q, hq⟩ : ∃ q, q = decide (a.fVal = b.fVal) := ⟨_, rfl⟩
  rw [← hq] at e5
  rw [decide_eq_true h1, decide_eq_true h2, decide_eq_true h3, decide_eq_true h4, ← hq]
  clear h1 h2 h3 h4 hq
  go_enter Try.func29, Try.ntmps29
  go_wp2_with fail
  go_ret
  exact ⟨by simp, (by repeat (first | with_reducible assumption | with_reducible exact Below.refl _ _ | with_reducible refine below_drewN ?_ _ | with_reducible refine Below.drew ?_ | (refine Below.setCell ?_ (by first | omega | (simp; omega) | simp) _) | (refine Below.alloc ?_ (by first | omega | (simp; omega) | simp) _) | (refine Below.trans ?_ (Below.mono (by with_reducible assumption) (by first | omega | (simp; omega) | simp)))))⟩
end Go.Proofs.Ytcigbobihkkdiaa

/- Entry: the reference's SameGraph, Same. -/
namespace Go.Proofs.Ytcigbobihkkdiaa
open Go.RowKit
set_option linter.unusedVariables false
set_option linter.unusedSimpArgs false

theorem drewN_drewN (w : World) (a b : Nat) : (w.drewN a).drewN b = w.drewN (a + b) := by
  unfold World.drewN
  simp [Nat.add_assoc]
set_option maxRecDepth 100000 in
set_option maxHeartbeats 4000000 in
theorem sameGraph_any (B : Nat) (xs ys : List TOp) (ao1 ao2 : Option Addr) (cap1 cap2 : Nat) (w : World) (hB : B ≤ w.heap.size) (hx : SlA B 7 (ROp B) w ao1 cap1 xs) (hy : SlA B 7 (ROp B) w ao2 cap2 ys) :
    Calls Try.prog 30 #[.agg #[.slice ao1 xs.length cap1], .agg #[.slice ao2 ys.length cap2]] w fun e w' => (∃ g, e = .returned (.bool g) ∧ (g = true ↔ xs = ys)) ∧ Below w.heap.size w w' := by
  have hl1 := hx.len
  have hl2 := hy.len
  obtain ⟨n1, hn1⟩ : ∃ n, n = xs.length := ⟨_, rfl⟩
  obtain ⟨n2, hn2⟩ : ∃ n, n = ys.length := ⟨_, rfl⟩
  rw [← hn1, ← hn2] 
  rw [← hn1] at hl1
  rw [← hn2] at hl2
  by_cases hnn : n1 = n2
  case neg =>
    have hd : ((n1 : Int) != (n2 : Int)) = true := by simp; omega
    have hne : xs ≠ ys := fun h => hnn (by rw [hn1, hn2, h])
    clear hx hy hn1 hn2
    replace hne := Lib.hid hne
    go_enter Try.func30, Try.ntmps30
    go_wp2_with fail
    go_ret
    exact ⟨⟨false, rfl, ⟨fun h => (by cases h), fun h => absurd h hne.out⟩⟩, (by repeat (first | with_reducible assumption | with_reducible exact Below.refl _ _ | with_reducible refine below_drewN ?_ _ | with_reducible refine Below.drew ?_ | (refine Below.setCell ?_ (by first | omega | (simp; omega) | simp) _) | (refine Below.alloc ?_ (by first | omega | (simp; omega) | simp) _) | (refine Below.trans ?_ (Below.mono (by with_reducible assumption) (by first | omega | (simp; omega) | simp)))))⟩
  subst hnn
  have hd : ((n1 : Int) != (n1 : Int)) = false := by simp
  replace hn1 := Lib.hid hn1
  replace hn2 := Lib.hid hn2
  go_enter Try.func30, Try.ntmps30
  go_upto_region 3 with fail
  refine Code.wp_world ?_
  intro w1 hw1
  have hb1 : Below w.heap.size w w1 := by rw [hw1]; exact below_alloc2 w _ _
  have hL : Blk w1 w.heap.size #[.slice ao1 n1 cap1] 27 := by rw [hw1]; exact (Blk.new _ _ _).alloc _
  have hM : Blk w1 (w.heap.size + 1) #[.slice ao2 n1 cap2] 27 := by rw [hw1]; exact blk_new1 _ _ _ _
  obtain ⟨la, hla⟩ : ∃ c, c = w.heap.size := ⟨_, rfl⟩
  obtain ⟨lb, hlb⟩ : ∃ c, c = w.heap.size + 1 := ⟨_, rfl⟩
  rw [← hlb] at hM
  rw [← hla] at hL
  rw [← hlb, ← hla]
  clear hw1
  have hx1 := ops_imp hx (hb1.mono hB)
  have hy1 := ops_imp hy (hb1.mono hB)
  have hB1 : B ≤ w1.heap.size := Nat.le_trans hB hb1.size
  clear hx hy
  replace hla := Lib.hid hla
  replace hlb := Lib.hid hlb
  have hlal := hL.lt
  have hlbl := hM.lt
  go_wp2_with fail
  go_loopw [5] (fun x5 wr => ∃ i : Nat, i ≤ n1 ∧ x5 = .int .i64 i ∧ Below w1.heap.size w1 wr ∧ (∀ j (h1 : j < xs.length) (h2 : j < ys.length), j < i → xs[j] = ys[j])) (fun x5 _ => n1 - (intOf x5).toNat)
  case atStart => exact ⟨0, Nat.zero_le _, rfl, Below.refl _ _, fun j _ _ h => absurd h (by omega)⟩
  case round =>
    obtain ⟨i, hi, rfl, hbr, hall⟩ := hrel
    have hb := hb1.trans (hbr.mono hb1.size)
    have hszr := hb.size
    have hsz1 := hbr.size
    have hlar : la < wr.heap.size := Nat.lt_of_lt_of_le hlal hsz1
    have hlbr : lb < wr.heap.size := Nat.lt_of_lt_of_le hlbl hsz1
    replace hall := Lib.hid hall
    have c1 : wr.cell? ⟨la, 0, none⟩ = some (.slice ao1 n1 cap1) := (hL.below hbr hL.lt).cellAt rfl
    have c2 : wr.cell? ⟨lb, 0, none⟩ = some (.slice ao2 n1 cap2) := (hM.below hbr hM.lt).cellAt rfl
    by_cases hin : i < n1
    · have hix : i < xs.length := by rw [← hn1.out]; exact hin
      have hiy : i < ys.length := by rw [← hn2.out]; exact hin
      obtain ⟨x, hxx⟩ : ∃ o, xs[i] = o := ⟨_, rfl⟩
      obtain ⟨y, hyy⟩ : ∃ o, ys[i] = o := ⟨_, rfl⟩
      have hne : x ≠ y → xs ≠ ys := by
        intro h1 h2
        subst h2
        exact h1 (hxx.symm.trans hyy)
      have hxa := ops_imp hx1 (hbr.mono hB1)
      have hya := ops_imp hy1 (hbr.mono hB1)
      obtain ⟨ba, oa, rfl, hba, _⟩ := hxa.addr (by omega)
      obtain ⟨bc, oc, rfl, hbc, _⟩ := hya.addr (by omega)
      obtain ⟨ai, ci, e0, e1, e2, e3, e4, e5, e6, _, hin1, _⟩ := ROp.at hxa hix hxx
      obtain ⟨aj, cj, g0, g1, g2, g3, g4, g5, g6, _, hin2, _⟩ := ROp.at hya hiy hyy
      have hba2 : ba < wr.heap.size := by omega
      have hbc2 : bc < wr.heap.size := by omega
      obtain ⟨m1, hm1⟩ : ∃ k, k = x.fIn.length := ⟨_, rfl⟩
      obtain ⟨m2, hm2⟩ : ∃ k, k = y.fIn.length := ⟨_, rfl⟩
      rw [← hm1] at e1
      rw [← hm2] at g1
      have hml1 := hin1.len
      have hml2 := hin2.len
      rw [← hm1] at hml1
      rw [← hm2] at hml2
      clear hxa hya
      replace hxx := Lib.hid hxx
      replace hyy := Lib.hid hyy
      replace hne := Lib.hid hne
      replace hm1 := Lib.hid hm1
      replace hm2 := Lib.hid hm2
      go_upto_region 8 with fail
      refine Code.wp_world ?_
      intro w3 hw3
      obtain ⟨pa, hpa⟩ : ∃ c, c = wr.heap.size := ⟨_, rfl⟩
      obtain ⟨pc, hpc⟩ : ∃ c, c = wr.heap.size + 1 := ⟨_, rfl⟩
      have hb3 : Below wr.heap.size wr w3 := by rw [hw3]; exact below_alloc2 _ _ _
      have hP : Blk w3 pa #[.int .i64 x.fKind, .slice ai m1 ci, .int .i64 x.fArg, .int .u32 x.fNum, .int .i64 x.fRounds, .int .i64 x.fTest, .int .u32 x.fLim] 47 := by rw [hw3, hpa]; exact (Blk.new _ _ _).alloc _
      have hQ : Blk w3 pc #[.int .i64 y.fKind, .slice aj m2 cj, .int .i64 y.fArg, .int .u32 y.fNum, .int .i64 y.fRounds, .int .i64 y.fTest, .int .u32 y.fLim] 47 := by rw [hw3, hpc]; exact blk_new1 _ _ _ _
      rw [← hpc, ← hpa]
      clear hw3 e0 e1 e2 e3 e4 e5 e6 g0 g1 g2 g3 g4 g5 g6
      have hb13 := hbr.trans (hb3.mono hsz1)
      have hbw3 := hb.trans (hb3.mono hszr)
      have hin1' := in_imp hin1 (hb3.mono (by omega))
      have hin2' := in_imp hin2 (hb3.mono (by omega))
      obtain ⟨p0, p1, p2, p3, p4, p5, p6⟩ := blk7 hP
      obtain ⟨q0, q1, q2, q3, q4, q5, q6⟩ := blk7 hQ
      replace hpa := Lib.hid hpa
      replace hpc := Lib.hid hpc
      clear hin1 hin2 c1 c2
      have hq0 : x.fKind = y.fKind ∨ ¬ x.fKind = y.fKind := Classical.em _
      rcases hq0 with h0 | h0
      case inr =>
        have d0 : (x.fKind != y.fKind) = true := by simpa using h0
        replace hq := Lib.hid h0
        clear h0
        go_wp2_with fail
        go_ret
        exact ⟨⟨false, rfl, ⟨fun h => (by cases h), fun h => absurd h (hne.out (fun h => hq.out (by rw [h])))⟩⟩, (by repeat (first | with_reducible assumption | with_reducible exact Below.refl _ _ | with_reducible refine below_drewN ?_ _ | with_reducible refine Below.drew ?_ | (refine Below.setCell ?_ (by first | omega | (simp; omega) | simp) _) | (refine Below.alloc ?_ (by first | omega | (simp; omega) | simp) _) | (refine Below.trans ?_ (Below.mono (by with_reducible assumption) (by first | omega | (simp; omega) | simp)))))⟩
      have d0 : (x.fKind != y.fKind) = false := by simpa using h0
      replace h0 := Lib.hid h0
      have hq0 : x.fArg = y.fArg ∨ ¬ x.fArg = y.fArg := Classical.em _
      rcases hq0 with h2 | h2
      case inr =>
        have d2 : (x.fArg != y.fArg) = true := by simpa using h2
        replace hq := Lib.hid h2
        clear h2
        go_wp2_with fail
        go_ret
        exact ⟨⟨false, rfl, ⟨fun h => (by cases h), fun h => absurd h (hne.out (fun h => hq.out (by rw [h])))⟩⟩, (by repeat (first | with_reducible assumption | with_reducible exact Below.refl _ _ | with_reducible refine below_drewN ?_ _ | with_reducible refine Below.drew ?_ | (refine Below.setCell ?_ (by first | omega | (simp; omega) | simp) _) | (refine Below.alloc ?_ (by first | omega | (simp; omega) | simp) _) | (refine Below.trans ?_ (Below.mono (by with_reducible assumption) (by first | omega | (simp; omega) | simp)))))⟩
      have d2 : (x.fArg != y.fArg) = false := by simpa using h2
      replace h2 := Lib.hid h2
      have hq0 : x.fNum = y.fNum ∨ ¬ x.fNum = y.fNum := Classical.em _
      rcases hq0 with h3 | h3
      case inr =>
        have d3 : (x.fNum != y.fNum) = true := by simpa using h3
        replace hq := Lib.hid h3
        clear h3
        go_wp2_with fail
        go_ret
        exact ⟨⟨false, rfl, ⟨fun h => (by cases h), fun h => absurd h (hne.out (fun h => hq.out (by rw [h])))⟩⟩, (by repeat (first | with_reducible assumption | with_reducible exact Below.refl _ _ | with_reducible refine below_drewN ?_ _ | with_reducible refine Below.drew ?_ | (refine Below.setCell ?_ (by first | omega | (simp; omega) | simp) _) | (refine Below.alloc ?_ (by first | omega | (simp; omega) | simp) _) | (refine Below.trans ?_ (Below.mono (by with_reducible assumption) (by first | omega | (simp; omega) | simp)))))⟩
      have d3 : (x.fNum != y.fNum) = false := by simpa using h3
      replace h3 := Lib.hid h3
      have hq0 : x.fRounds = y.fRounds ∨ ¬ x.fRounds = y.fRounds := Classical.em _
      rcases hq0 with h4 | h4
      case inr =>
        have d4 : (x.fRounds != y.fRounds) = true := by simpa using h4
        replace hq := Lib.hid h4
        clear h4
        go_wp2_with fail
        go_ret
        exact ⟨⟨false, rfl, ⟨fun h => (by cases h), fun h => absurd h (hne.out (fun h => hq.out (by rw [h])))⟩⟩, (by repeat (first | with_reducible assumption | with_reducible exact Below.refl _ _ | with_reducible refine below_drewN ?_ _ | with_reducible refine Below.drew ?_ | (refine Below.setCell ?_ (by first | omega | (simp; omega) | simp) _) | (refine Below.alloc ?_ (by first | omega | (simp; omega) | simp) _) | (refine Below.trans ?_ (Below.mono (by with_reducible assumption) (by first | omega | (simp; omega) | simp)))))⟩
      have d4 : (x.fRounds != y.fRounds) = false := by simpa using h4
      replace h4 := Lib.hid h4
      have hq0 : x.fTest = y.fTest ∨ ¬ x.fTest = y.fTest := Classical.em _
      rcases hq0 with h5 | h5
      case inr =>
        have d5 : (x.fTest != y.fTest) = true := by simpa using h5
        replace hq := Lib.hid h5
        clear h5
        go_wp2_with fail
        go_ret
        exact ⟨⟨false, rfl, ⟨fun h => (by cases h), fun h => absurd h (hne.out (fun h => hq.out (by rw [h])))⟩⟩, (by repeat (first | with_reducible assumption | with_reducible exact Below.refl _ _ | with_reducible refine below_drewN ?_ _ | with_reducible refine Below.drew ?_ | (refine Below.setCell ?_ (by first | omega | (simp; omega) | simp) _) | (refine Below.alloc ?_ (by first | omega | (simp; omega) | simp) _) | (refine Below.trans ?_ (Below.mono (by with_reducible assumption) (by first | omega | (simp; omega) | simp)))))⟩
      have d5 : (x.fTest != y.fTest) = false := by simpa using h5
      replace h5 := Lib.hid h5
      have hq0 : x.fLim = y.fLim ∨ ¬ x.fLim = y.fLim := Classical.em _
      rcases hq0 with h6 | h6
      case inr =>
        have d6 : (x.fLim != y.fLim) = true := by simpa using h6
        replace hq := Lib.hid h6
        clear h6
        go_wp2_with fail
        go_ret
        exact ⟨⟨false, rfl, ⟨fun h => (by cases h), fun h => absurd h (hne.out (fun h => hq.out (by rw [h])))⟩⟩, (by repeat (first | with_reducible assumption | with_reducible exact Below.refl _ _ | with_reducible refine below_drewN ?_ _ | with_reducible refine Below.drew ?_ | (refine Below.setCell ?_ (by first | omega | (simp; omega) | simp) _) | (refine Below.alloc ?_ (by first | omega | (simp; omega) | simp) _) | (refine Below.trans ?_ (Below.mono (by with_reducible assumption) (by first | omega | (simp; omega) | simp)))))⟩
      have d6 : (x.fLim != y.fLim) = false := by simpa using h6
      replace h6 := Lib.hid h6
      by_cases hmm : m1 = m2
      case neg =>
        have dm : ((m1 : Int) != (m2 : Int)) = true := by simp; omega
        replace hq := Lib.hid hmm
        clear hmm
        go_wp2_with fail
        go_ret
        exact ⟨⟨false, rfl, ⟨fun h => (by cases h), fun h => absurd h (hne.out (fun h => hq.out (by rw [hm1.out, hm2.out, h])))⟩⟩, (by repeat (first | with_reducible assumption | with_reducible exact Below.refl _ _ | with_reducible refine below_drewN ?_ _ | with_reducible refine Below.drew ?_ | (refine Below.setCell ?_ (by first | omega | (simp; omega) | simp) _) | (refine Below.alloc ?_ (by first | omega | (simp; omega) | simp) _) | (refine Below.trans ?_ (Below.mono (by with_reducible assumption) (by first | omega | (simp; omega) | simp)))))⟩
      subst hmm
      have dm : ((m1 : Int) != (m1 : Int)) = false := by simp
      go_wp2_with fail
      go_loopw [8] (fun x8 wi => ∃ j nd : Nat, j ≤ m1 ∧ x8 = .int .i64 j ∧ wi = w3.drewN nd ∧ (∀ k (h1 : k < x.fIn.length) (h2 : k < y.fIn.length), k < j → x.fIn[k] = y.fIn[k])) (fun x8 _ => m1 - (intOf x8).toNat)
      case atStart => exact ⟨0, 0, Nat.zero_le _, rfl, rfl, fun j _ _ h => absurd h (by omega)⟩
      case round =>
        obtain ⟨j, nd, hj, rfl, rfl, hallj⟩ := hrel
        replace hallj := Lib.hid hallj
        by_cases hjm : j < m1
        · have hjx : j < x.fIn.length := by rw [← hm1.out]; exact hjm
          have hjy : j < y.fIn.length := by rw [← hm2.out]; exact hjm
          obtain ⟨u, hu⟩ : ∃ o, x.fIn[j] = o := ⟨_, rfl⟩
          obtain ⟨v, hv⟩ : ∃ o, y.fIn[j] = o := ⟨_, rfl⟩
          obtain ⟨b6, o6, rfl, hb6, _⟩ := hin1'.addr (by omega)
          obtain ⟨b7, o7, rfl, hb7, _⟩ := hin2'.addr (by omega)
          have s1 := (in_at hin1' hjx hu).1
          have s2 := (in_at hin2' hjy hv).1
          have hnv : u ≠ v → x ≠ y := by
            intro h1 h2
            subst h2
            exact h1 (hu.symm.trans hv)
          replace hu := Lib.hid hu
          replace hv := Lib.hid hv
          replace hnv := Lib.hid hnv
          go_wp2_with fail
          by_cases huv : u = v
          · subst huv
            have duv : (u != u) = false := by simp
            go_quiet (fail)
            go_wp2_with fail
            go_roundw
            case rel =>
              refine ⟨j + 1, _, by omega, by go_num, (by first | rfl | exact drewN_drewN _ _ _), fun k h1' h2' hk => ?_⟩
              by_cases hkj : k < j
              · exact hallj.out k h1' h2' hkj
              · obtain rfl : k = j := by omega
                rw [hu.out, hv.out]
            case measure => simp [intOf]; omega
          · have duv : (u != v) = true := by simpa using huv
            replace huv := Lib.hid huv
            go_quiet (fail)
            go_wp2_with fail
            go_ret
            exact ⟨⟨false, rfl, ⟨fun h => (by cases h), fun h => absurd h (hne.out (hnv.out huv.out))⟩⟩, (by repeat (first | with_reducible assumption | with_reducible exact Below.refl _ _ | with_reducible refine below_drewN ?_ _ | with_reducible refine Below.drew ?_ | (refine Below.setCell ?_ (by first | omega | (simp; omega) | simp) _) | (refine Below.alloc ?_ (by first | omega | (simp; omega) | simp) _) | (refine Below.trans ?_ (Below.mono (by with_reducible assumption) (by first | omega | (simp; omega) | simp)))))⟩
        · obtain rfl : j = m1 := by omega
          have hxy : x = y := by
            have hI : x.fIn = y.fIn := by
              apply List.ext_getElem
              · rw [← hm1.out, ← hm2.out]
              · intro k h1' h2'
                exact hallj.out k h1' h2' (by rw [hm1.out]; exact h1')
            cases x
            cases y
            simp only [TOp.mk.injEq]
            exact ⟨h0.out, hI, h2.out, h3.out, h4.out, h5.out, h6.out⟩
          go_wp2_with fail
          go_roundw
          case rel =>
            refine ⟨i + 1, by omega, by go_num, below_drewN hb13 _, fun k h1' h2' hk => ?_⟩
            by_cases hki : k < i
            · exact hall.out k h1' h2' hki
            · obtain rfl : k = i := by omega
              rw [hxx.out, hyy.out, hxy]
          case measure => simp [intOf]; omega
    · obtain rfl : i = n1 := by omega
      have hxy : xs = ys := by
        apply List.ext_getElem
        · rw [← hn1.out, ← hn2.out]
        · intro k h1' h2'
          exact hall.out k h1' h2' (by rw [hn1.out]; exact h1')
      replace hxy := Lib.hid hxy
      go_wp2_with fail
      go_ret
      exact ⟨⟨true, rfl, ⟨fun _ => hxy.out, fun _ => rfl⟩⟩, hb⟩

/-- What Same answers. -/
def SmR (XY : Prop) (w : World) (e : Ending) (w' : World) : Prop := (∃ g, e = .returned (.bool g) ∧ (g = true ↔ XY)) ∧ Below w.heap.size w w'
theorem ent_eq {x y : TEntry} : x = y ↔ x.fKind = y.fKind ∧ x.fN = y.fN ∧ x.fRec = y.fRec ∧ x.fGraph.fOps = y.fGraph.fOps := by
  constructor
  · rintro rfl; exact ⟨rfl, rfl, rfl, rfl⟩
  · rintro ⟨h1, h2, h3, h4⟩
    obtain ⟨k, r, ⟨g⟩, n⟩ := x
    obtain ⟨k', r', ⟨g'⟩, n'⟩ := y
    dsimp only at h1 h2 h3 h4
    rw [h1, h2, h3, h4]

set_option maxRecDepth 100000 in
set_option maxHeartbeats 2000000 in
theorem esame_any (B : Nat) (x y : TEntry) (ao1 ao2 : Option Addr) (cap1 cap2 : Nat) (w : World) (hB : B ≤ w.heap.size) (hx : SlA B 7 (ROp B) w ao1 cap1 x.fGraph.fOps) (hy : SlA B 7 (ROp B) w ao2 cap2 y.fGraph.fOps) :
    Calls Try.prog 15 #[.agg (encE x ao1 cap1), .agg (encE y ao2 cap2)] w (SmR (x = y) w) := by
  have hS := fun (u : World) (hb : Below w.heap.size w u) => sameGraph_any B _ _ ao1 ao2 cap1 cap2 u (Nat.le_trans hB hb.size) (ops_imp hx (hb.mono hB)) (ops_imp hy (hb.mono hB))
  have hR := fun (u : World) => sameRec_any x.fRec y.fRec u
  have hne : ∀ g : Bool, (g = true ↔ x = y) ↔ (g = true ↔ (x.fKind = y.fKind ∧ x.fN = y.fN ∧ x.fRec = y.fRec ∧ x.fGraph.fOps = y.fGraph.fOps)) := fun g => by rw [ent_eq]
  obtain ⟨XY, hXY⟩ : ∃ p : Prop, p = (x = y) := ⟨_, rfl⟩
  obtain ⟨RR, hRR⟩ : ∃ p : Prop, p = (x.fRec = y.fRec) := ⟨_, rfl⟩
  obtain ⟨GG, hGG⟩ : ∃ p : Prop, p = (x.fGraph.fOps = y.fGraph.fOps) := ⟨_, rfl⟩
  rw [← hXY]
  rw [← hXY, ← hRR, ← hGG] at hne
  rw [← hRR] at hR
  rw [← hGG] at hS
  obtain ⟨n1, hn1⟩ : ∃ n, n = x.fGraph.fOps.length := ⟨_, rfl⟩
  obtain ⟨n2, hn2⟩ : ∃ n, n = y.fGraph.fOps.length := ⟨_, rfl⟩
  unfold encE
  unfold encR at hR
  rw [← hn1, ← hn2] at hS ⊢
  clear hx hy hXY hRR hGG hn1 hn2
  replace hne := Lib.hid hne
  replace hS := Lib.hid hS
  replace hR := Lib.hid hR
  by_cases h1 : x.fKind = y.fKind
  case neg =>
    have d1 : (x.fKind == y.fKind) = false := by simpa using h1
    replace h1 := Lib.hid h1
    go_enter Try.func15, Try.ntmps15
    go_wp2_with fail
    go_ret
    exact ⟨⟨false, rfl, (hne.out _).2 ⟨fun h => (by cases h), fun h => absurd h.1 h1.out⟩⟩, (by repeat (first | with_reducible assumption | with_reducible exact Below.refl _ _ | with_reducible refine below_drewN ?_ _ | with_reducible refine Below.drew ?_ | (refine Below.setCell ?_ (by first | omega | (simp; omega) | simp) _) | (refine Below.alloc ?_ (by first | omega | (simp; omega) | simp) _) | (refine Below.trans ?_ (Below.mono (by with_reducible assumption) (by first | omega | (simp; omega) | simp)))))⟩
  have d1 : (x.fKind == y.fKind) = true := by simpa using h1
  replace h1 := Lib.hid h1
  by_cases h2 : x.fN = y.fN
  case neg =>
    have d2 : (x.fN == y.fN) = false := by simpa using h2
    replace h2 := Lib.hid h2
    go_enter Try.func15, Try.ntmps15
    go_wp2_with fail
    go_ret
    exact ⟨⟨false, rfl, (hne.out _).2 ⟨fun h => (by cases h), fun h => absurd h.2.1 h2.out⟩⟩, (by repeat (first | with_reducible assumption | with_reducible exact Below.refl _ _ | with_reducible refine below_drewN ?_ _ | with_reducible refine Below.drew ?_ | (refine Below.setCell ?_ (by first | omega | (simp; omega) | simp) _) | (refine Below.alloc ?_ (by first | omega | (simp; omega) | simp) _) | (refine Below.trans ?_ (Below.mono (by with_reducible assumption) (by first | omega | (simp; omega) | simp)))))⟩
  have d2 : (x.fN == y.fN) = true := by simpa using h2
  replace h2 := Lib.hid h2
  go_enter Try.func15, Try.ntmps15
  go_upto_region 1 with fail
  refine Code.wp_world ?_
  intro w1 hw1
  have hb1 : Below w.heap.size w w1 := by rw [hw1]; exact below_alloc2 w _ _
  have hL : Blk w1 w.heap.size #[.int .i64 x.fKind, .int .i64 x.fRec.fProducer, .int .i64 x.fRec.fSeq, .int .i64 x.fRec.fPart, .string x.fRec.fKey, .int .u32 x.fRec.fVal, .slice ao1 n1 cap1, .int .i64 x.fN] 29 := by rw [hw1]; exact (Blk.new _ _ _).alloc _
  have hM : Blk w1 (w.heap.size + 1) #[.int .i64 y.fKind, .int .i64 y.fRec.fProducer, .int .i64 y.fRec.fSeq, .int .i64 y.fRec.fPart, .string y.fRec.fKey, .int .u32 y.fRec.fVal, .slice ao2 n2 cap2, .int .i64 y.fN] 29 := by rw [hw1]; exact blk_new1 _ _ _ _
  obtain ⟨la, hla⟩ : ∃ c, c = w.heap.size := ⟨_, rfl⟩
  obtain ⟨lb, hlb⟩ : ∃ c, c = w.heap.size + 1 := ⟨_, rfl⟩
  rw [← hlb] at hM
  rw [← hla] at hL
  rw [← hlb, ← hla]
  clear hw1
  replace hla := Lib.hid hla
  replace hlb := Lib.hid hlb
  obtain ⟨c0, c1, c2, c3, c4, c5, c6, c7⟩ := blk8 hL
  obtain ⟨e0, e1, e2, e3, e4, e5, e6, e7⟩ := blk8 hM
  have hR1 := hR.out w1
  go_wp2_with (go_at_call 29; refine Shut.out ?k1)
  unfold Shut
  refine hR1.mono ?_
  rintro e w2 ⟨⟨g, rfl, hg⟩, hb12⟩
  dsimp only
  have hb2 := hb1.trans (hb12.mono hb1.size)
  have hL2 := hL.below hb12 hL.lt
  have hM2 := hM.below hb12 hM.lt
  replace hg := Lib.hid hg
  clear hR1 hR hL hM c0 c1 c2 c3 c4 c5 c6 c7 e0 e1 e2 e3 e4 e5 e6 e7
  cases g with
  | false =>
    go_wp2_with fail
    go_ret
    exact ⟨⟨false, rfl, (hne.out _).2 ⟨fun h => (by cases h), fun h => hg.out.2 h.2.2.1⟩⟩, hb2⟩
  | true =>
    obtain ⟨c0, c1, c2, c3, c4, c5, c6, c7⟩ := blk8 hL2
    obtain ⟨e0, e1, e2, e3, e4, e5, e6, e7⟩ := blk8 hM2
    have hS2 := hS.out w2 hb2
    go_wp2_with (go_at_call 30; refine Shut.out ?k2)
    unfold Shut
    refine hS2.mono ?_
    rintro e w3 ⟨⟨g2, rfl, hg2⟩, hb23⟩
    dsimp only
    have hb3 := hb2.trans (hb23.mono hb2.size)
    replace hg2 := Lib.hid hg2
    clear hS2 hS hL2 hM2 c0 c1 c2 c3 c4 c5 c6 c7 e0 e1 e2 e3 e4 e5 e6 e7
    cases g2 with
    | false =>
      go_wp2_with fail
      go_ret
      exact ⟨⟨false, rfl, (hne.out _).2 ⟨fun h => (by cases h), fun h => hg2.out.2 h.2.2.2⟩⟩, hb3⟩
    | true =>
      go_wp2_with fail
      go_ret
      exact ⟨⟨true, rfl, (hne.out _).2 ⟨fun _ => ⟨h1.out, h2.out, hg.out.1 (by trivial), hg2.out.1 (by trivial)⟩, fun _ => rfl⟩⟩, hb3⟩
end Go.Proofs.Ytcigbobihkkdiaa

/- Entry: the walk of EntryDecodes. -/
namespace Go.Proofs.Ytcigbobihkkdiaa
open Go.RowKit
set_option linter.unusedVariables false
set_option linter.unusedSimpArgs false

theorem decV_wf (s : ByteArray) (hs : s.size ≤ maxLen) : wfL (decV (txtB s)).2 := by
  obtain ⟨cap2, w2, _, _, hby⟩ := str_bytes s default hs
  obtain ⟨e, w3, _, ⟨_, ao, cap, _, hit⟩, _⟩ := decode_any (txtB s) (txtB_lt s) _ cap2 w2 hby []
  exact (hit.rits (B := w3.heap.size) (fun b hb => hb.2)).wf

set_option maxRecDepth 100000 in
set_option maxHeartbeats 2000000 in
theorem edecodes_walk (s : ByteArray) (hs : s.size ≤ maxLen) (w : World) :
    Calls Try.prog 4 #[.string s] w fun e w' => e = .returned (.bool true) ∧ Below w.heap.size w w' := by
  have hlaw := dec_law (txtB_lt s) (decV_wf s hs)
  have hD := edecode_any s w hs
  have hD2 := fun (u : World) => rdecode_any s u hs
  rw [hlaw] at hD2
  obtain ⟨⟨x, er⟩, hx⟩ : ∃ r, r = edV (txtB s) := ⟨_, rfl⟩
  rw [← hx] at hD hD2
  clear hlaw hx
  replace hD2 := Lib.hid hD2
  go_enter Try.func4, Try.ntmps4
  go_wp2_with (go_at_call 13; refine Shut.out ?k1)
  unfold Shut
  refine hD.mono ?_
  rintro e w1 ⟨hb1, v, ps, rfl, hops, hpm⟩
  dsimp only at hpm ⊢
  obtain ⟨ao, cap, rfl, hsl, _⟩ := hops.encE hpm
  clear hD hops hpm
  obtain ⟨n1, hn1⟩ : ∃ n, n = x.fGraph.fOps.length := ⟨_, rfl⟩
  unfold encV8
  try dsimp only
  rw [← hn1]
  replace hn1 := Lib.hid hn1
  go_upto_region 2 with fail
  refine Code.wp_world ?_
  intro w2 hw2
  obtain ⟨la, hla⟩ : ∃ c, c = w1.heap.size := ⟨_, rfl⟩
  have hL : Blk w2 la #[.int .i64 x.fKind, .int .i64 x.fRec.fProducer, .int .i64 x.fRec.fSeq, .int .i64 x.fRec.fPart, .string x.fRec.fKey, .int .u32 x.fRec.fVal, .slice ao n1 cap, .int .i64 x.fN] 29 := by rw [hw2, hla]; exact Blk.new _ _ _
  have hb12 : Below w1.heap.size w1 w2 := by rw [hw2]; exact below_alloc1 _ _
  rw [← hla]
  clear hw2
  replace hla := Lib.hid hla
  have hb2 := hb1.trans (hb12.mono hb1.size)
  have hD3 := hD2.out w2
  go_wp2_with (go_at_call 14; refine Shut.out ?k2)
  unfold Shut
  refine hD3.mono ?_
  rintro e w3 ⟨hb23, v, ps, rfl, hops, hpm⟩
  dsimp only at hpm ⊢
  obtain ⟨ao2, cap2, rfl, hsl2, _⟩ := hops.encE hpm
  rw [← hn1.out]
  clear hD3 hD2 hops hpm
  unfold encV8
  try dsimp only
  go_upto_region 3 with fail
  refine Code.wp_world ?_
  intro w4 hw4
  obtain ⟨lb, hlb⟩ : ∃ c, c = w3.heap.size := ⟨_, rfl⟩
  have hM : Blk w4 lb #[.int .i64 x.fKind, .int .i64 x.fRec.fProducer, .int .i64 x.fRec.fSeq, .int .i64 x.fRec.fPart, .string x.fRec.fKey, .int .u32 x.fRec.fVal, .slice ao2 n1 cap2, .int .i64 x.fN] 29 := by rw [hw4, hlb]; exact Blk.new _ _ _
  have hb34 : Below w3.heap.size w3 w4 := by rw [hw4]; exact below_alloc1 _ _
  rw [← hlb]
  clear hw4
  replace hlb := Lib.hid hlb
  have hb24 : Below w2.heap.size w2 w4 := hb23.trans (hb34.mono hb23.size)
  have hL4 := hL.below hb24 hL.lt
  have hb4 := hb2.trans (hb24.mono hb2.size)
  have hs13 : w1.heap.size ≤ w3.heap.size := Nat.le_trans hb12.size hb23.size
  have hsame := fun (u : World) (hb : Below w4.heap.size w4 u) => esame_any w3.heap.size x x ao ao2 cap cap2 u (Nat.le_trans hb34.size hb.size) ((ops_imp hsl (hb12.trans (hb24.mono hb12.size))).imp ((hb.mono (Nat.le_trans (Nat.le_trans hb12.size hb23.size) hb34.size))) hs13 (fun _ _ _ h => h.imp (hb.mono (Nat.le_trans (Nat.le_trans hb12.size hb23.size) hb34.size)) hs13)) (ops_imp hsl2 (hb34.trans (hb.mono hb34.size)))
  unfold encE at hsame
  rw [← hn1.out] at hsame
  replace hsame := Lib.hid hsame
  clear hL hsl hsl2 hn1
  have hK := eknown_any w4
  go_wp2_with (go_at_call 10; refine Shut.out ?k3)
  unfold Shut
  refine hK.mono ?_
  rintro e w5 ⟨rfl, hb45⟩
  dsimp only
  have hb5 := hb4.trans (hb45.mono hb4.size)
  have hL5 := hL4.below hb45 hL4.lt
  have hM5 := hM.below hb45 hM.lt
  obtain ⟨c0, c1, c2, c3, c4, c5, c6, c7⟩ := blk8 hL5
  obtain ⟨e0, e1, e2, e3, e4, e5, e6, e7⟩ := blk8 hM5
  have hSm := hsame.out w5 hb45
  clear hK hL4 hM hsame
  go_wp2_with (go_at_call 15; refine Shut.out ?k4)
  unfold Shut
  refine hSm.mono ?_
  rintro e w6 ⟨⟨g, rfl, hg⟩, hb56⟩
  obtain rfl : g = true := hg.2 (by trivial)
  dsimp only
  have hb6 := hb5.trans (hb56.mono hb5.size)
  clear hSm hg c0 c1 c2 c3 c4 c5 c6 c7 e0 e1 e2 e3 e4 e5 e6 e7
  go_wp2_with fail
  go_ret
  exact ⟨by simp, hb6⟩
theorem edecodes_row {w : World} (a0 : ByteArray) (h0 : a0.size ≤ maxLen) :
    Calls Try.prog 4 #[.string a0] w fun e w' => e = .returned (.bool true) ∧ Below w.heap.size w w' := edecodes_walk a0 h0 w
end Go.Proofs.Ytcigbobihkkdiaa

