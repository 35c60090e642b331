/- Model: the walk of ModelSums. -/
import Derived.Test.YtbianedgogdeeaaNh
import Derived.Laws.StructEq
namespace Go.Proofs.Ytbianedgogdeeaa
open Go.RowKit Go.Maps Fold Go.Lib
attribute [local go_sem] Oper.semAt_some
set_option linter.unusedVariables false
set_option linter.unusedSimpArgs false

theorem infoT : (Try.prog.info? 9).map (fun i => (i.zero, i.size, i.bytes)) = some (some (.string ⟨#[]⟩), 1, 16) := by kernel_rfl
theorem partsT : ∃ i, Try.prog.info? 9 = some i ∧ i.zero = some (.string ⟨#[]⟩) ∧ i.size = 1 ∧ i.bytes = 16 := infoParts infoT

theorem ep_lit {w w1 : World} (hb : Below w.heap.size w w1) : EpB w ((((w1.alloc (.cells #[.int .i64 0] 3)).alloc (.cells #[.int .i64 1] 3)).alloc (.cells (sumsCells w1.heap.size (w1.heap.size + 1) 0) 51)).alloc (.cells #[.slice (some ⟨w1.heap.size + 1 + 1, 0, none⟩) 3 3] 24)) (w1.heap.size + 1 + 1 + 1) (w1.heap.size + 1 + 1) w1.heap.size (w1.heap.size + 1) 0 := by
  have e1 := World.size_alloc w1 (.cells #[.int .i64 0] 3)
  have e2 := World.size_alloc (w1.alloc (.cells #[.int .i64 0] 3)) (.cells #[.int .i64 1] 3)
  have e3 := World.size_alloc ((w1.alloc (.cells #[.int .i64 0] 3)).alloc (.cells #[.int .i64 1] 3)) (.cells (sumsCells w1.heap.size (w1.heap.size + 1) 0) 51)
  rw [e1] at e2
  rw [e2] at e3
  have h1 := (((Blk.new w1 #[.int .i64 0] 3).alloc (.cells #[.int .i64 1] 3)).alloc (.cells (sumsCells w1.heap.size (w1.heap.size + 1) 0) 51)).alloc (.cells #[.slice (some ⟨w1.heap.size + 1 + 1, 0, none⟩) 3 3] 24)
  have h2 := ((Blk.new (w1.alloc (.cells #[.int .i64 0] 3)) #[.int .i64 1] 3).alloc (.cells (sumsCells w1.heap.size (w1.heap.size + 1) 0) 51)).alloc (.cells #[.slice (some ⟨w1.heap.size + 1 + 1, 0, none⟩) 3 3] 24)
  have h3 := (Blk.new ((w1.alloc (.cells #[.int .i64 0] 3)).alloc (.cells #[.int .i64 1] 3)) (sumsCells w1.heap.size (w1.heap.size + 1) 0) 51).alloc (.cells #[.slice (some ⟨w1.heap.size + 1 + 1, 0, none⟩) 3 3] 24)
  have h4 := Blk.new (((w1.alloc (.cells #[.int .i64 0] 3)).alloc (.cells #[.int .i64 1] 3)).alloc (.cells (sumsCells w1.heap.size (w1.heap.size + 1) 0) 51)) #[.slice (some ⟨w1.heap.size + 1 + 1, 0, none⟩) 3 3] 24
  rw [e1] at h2
  rw [e2] at h3
  rw [e3] at h4
  have hs := hb.size
  exact ⟨(((hb.alloc hs _).alloc (by rw [e1]; omega) _).alloc (by rw [e2]; omega) _).alloc (by rw [e3]; omega) _, h4, ⟨h3, h1, h2, by omega, by omega, by omega⟩⟩
theorem sto_empty {w : World} {rb base : Nat} (h : Blk w rb (Array.replicate 3 (.slice none 0 0)) 29) (hb : base ≤ rb) : StO w base (.slice (some ⟨rb, 0, none⟩) 3 3) [[], [], []] :=
  .inr ⟨rb, [.slice none 0 0, .slice none 0 0, .slice none 0 0], rfl, h, hb, rfl, ⟨by decide, by decide⟩, fun j hj => by
    have hc : j = 0 ∨ j = 1 ∨ j = 2 := by simp only [List.length_cons, List.length_nil] at hj; omega
    rcases hc with rfl | rfl | rfl
    · exact ⟨_, rfl, OwnL.nil _ _ _ _ _⟩
    · exact ⟨_, rfl, OwnL.nil _ _ _ _ _⟩
    · exact ⟨_, rfl, OwnL.nil _ _ _ _ _⟩⟩

theorem Sm.newC {w wr : World} {gx ob i1 i2 sb : Nat} {so : Option Addr} {sc : Nat} {K : PRS} {kv uv cv lv : Value} {keys : List ByteArray} {sums : List Nat} {came : List ByteArray} {l : List TRecord} (h : Sm w wr gx ob i1 i2 sb so sc K kv uv cv lv keys sums came l) :
    Sm w (wr.alloc (.cells #[] 9)) gx ob i1 i2 sb so sc K kv uv (.slice (some ⟨wr.heap.size, 0, none⟩) 0 0) lv keys sums [] l := by
  have h1 := h.below (belowAlloc wr (.cells #[] 9))
  refine ⟨h1.ep, h1.sv, h1.ks, h1.us, OwnL.base_le (ownEmpty wr 1 9) h.ep.bel.size, h1.ls, fun g e e2 => ?_⟩
  have h2 := (h.ks.lt g e).2
  simp only [Value.ownBlock, Option.some.injEq] at e2
  omega
theorem ownT_rd {w : World} {base n cap : Nat} {ao : Option Addr} {l : List ByteArray} (h : OwnT' w base (.slice ao n cap) l) : n = l.length ∧ SlA w.heap.size 1 (fun _ cs x => cs = encT x) w ao cap l := by
  obtain ⟨ao', cap', he, hs⟩ := h.sla (E := fun _ cs x => cs = encT x) encT_len (fun x hx => rfl)
  simp only [Value.slice.injEq] at he
  obtain ⟨rfl, rfl, rfl⟩ := he
  exact ⟨rfl, hs⟩
theorem Sm.next {w wr : World} {gx ob i1 i2 sb zt qbc : Nat} {so qb : Option Addr} {sc : Nat} {K K2 : PRS} {kv uv cv lv : Value} {keys : List ByteArray} {sums : List Nat} {came : List ByteArray} {l : List TRecord} (h : Sm w wr gx ob i1 i2 sb so sc K kv uv cv lv keys sums came l) (hsb : w.heap.size ≤ sb) (hV : SvB wr w.heap.size zt qb 3 qbc [[], K2, []]) :
    Sm w (wr.setCell ⟨sb, 0, none⟩ (.slice qb 3 qbc)) gx ob i1 i2 sb qb qbc K2 kv uv (.slice none 0 0) (.slice none 0 0) keys sums [] [] := by
  have hc : Chg (fun k => k = sb) wr (wr.setCell ⟨sb, 0, none⟩ (.slice qb 3 qbc)) := (Chg.refl _ _).setCell _ _ (fun _ => rfl)
  exact ⟨h.ep.set h.sv.box hsb, SvB.made h.sv.box hV.own, h.ks.chg hc (fun g e e2 => h.ks.ne_blk h.sv.box (by decide) (by rw [e, e2])), h.us.chg hc (fun g e e2 => h.us.ne_blk h.sv.box (by decide) (by rw [e, e2])), OwnL.nil _ _ _ _ _, OwnL.nil _ _ _ _ _, fun g e e2 => by cases e2⟩
theorem ks0 : KS [] [] [] ∧ okL [] ∧ (∀ p ∈ ([] : PRS), p.1.size ≤ 32) ∧ ([] : List ByteArray).length ≤ 60 * 0 :=
  ⟨KS.nil, fun p h => absurd h (by simp), fun p h => absurd h (by simp), Nat.le_refl _⟩

set_option maxRecDepth 100000 in
set_option maxHeartbeats 1600000 in
theorem msums_walk (eps : List (List TRecord)) (ea : Option Addr) (ecap : Nat) (w : World) (hx : SlA w.heap.size 1 (RSl w.heap.size 5 (RRecord w.heap.size)) w ea ecap eps) :
    Calls Try.prog 8 #[.slice ea eps.length ecap] w fun e w' => e = .returned (.bool true) ∧ Below w.heap.size w w' := by
  obtain ⟨iT, hiT, hT0, hT1, hT2⟩ := partsT
  obtain ⟨iV, hiV, hV0, hV1, hV2⟩ := partsV
  obtain ⟨iD, hiD, hD0, hD1, hD2⟩ := partsD
  obtain ⟨en, hen⟩ : ∃ en, en = eps.length := ⟨_, rfl⟩
  have hel := hx.len
  rw [← hen] at hel ⊢
  replace hen := Lib.hid hen
  have hkn := mknown_any w
  replace hkn := Lib.hid hkn
  go_enter Try.func8, Try.ntmps8
  go_wp2_with fail
  refine hkn.out.mono ?_
  rintro e w1 ⟨rfl, hb1⟩
  clear hkn
  dsimp only
  go_upto_region 4 with fail
  refine Code.wp_world ?_
  intro w2 hw2
  have hE2 : EpB w w2 (w1.heap.size + 1 + 1 + 1) (w1.heap.size + 1 + 1) w1.heap.size (w1.heap.size + 1) 0 := by
    rw [hw2]
    exact ep_lit hb1
  obtain ⟨i1, hi1⟩ : ∃ i1, i1 = w1.heap.size := ⟨_, rfl⟩
  rw [← hi1] at hE2 ⊢
  obtain ⟨i2, hi2⟩ : ∃ i2, i2 = i1 + 1 := ⟨_, rfl⟩
  rw [← hi2] at hE2 ⊢
  obtain ⟨ob, hob⟩ : ∃ ob, ob = i2 + 1 := ⟨_, rfl⟩
  rw [← hob] at hE2 ⊢
  obtain ⟨gx, hgx⟩ : ∃ gx, gx = ob + 1 := ⟨_, rfl⟩
  rw [← hgx] at hE2 ⊢
  replace hi1 := Lib.hid hi1
  replace hi2 := Lib.hid hi2
  replace hob := Lib.hid hob
  replace hgx := Lib.hid hgx
  clear hw2 hb1
  have x2 := hE2.cell
  have hem := empty_any 3 (some ⟨ob, 0, none⟩) 3 w2 (by omega)
  replace hem := Lib.hid hem
  go_wp2_with (go_at_call 16; refine Shut.out ?ke)
  unfold Shut
  refine hem.out.mono ?_
  rintro e w3 ⟨rb, rfl, hR3, hrb, hb3⟩
  have hE3 := hE2.below hb3
  have hst3 := sto_empty hR3 (Nat.le_trans hE2.bel.size hrb)
  clear hem x2 hE2 hb3 hR3 hrb
  dsimp only
  go_upto_region 7 with fail
  refine Code.wp_world ?_
  intro w4 hw4
  have hb4 : Below w3.heap.size w3 w4 := by rw [hw4]; exact belowAlloc _ _
  have hE4 := hE3.below hb4
  have hV4 : SvB w4 w.heap.size w3.heap.size (some ⟨rb, 0, none⟩) 3 3 [[], [], []] := ⟨by rw [hw4]; exact Blk.new _ _ _, hst3.below hb4⟩
  obtain ⟨sb, hsb⟩ : ∃ sb, sb = w3.heap.size := ⟨_, rfl⟩
  have hsbw : w.heap.size ≤ sb := by rw [hsb]; exact hE3.bel.size
  rw [← hsb] at hV4 ⊢
  replace hsb := Lib.hid hsb
  clear hw4 hb4 hE3 hst3
  have hS4 : Sm w w4 gx ob i1 i2 sb (some ⟨rb, 0, none⟩) 3 [] (.slice none 0 0) (.slice none 0 0) (.slice none 0 0) (.slice none 0 0) [] [] [] [] := ⟨hE4, hV4, OwnL.nil _ _ _ _ _, OwnL.nil _ _ _ _ _, OwnL.nil _ _ _ _ _, OwnL.nil _ _ _ _ _, fun g e => by cases e⟩
  clear hE4 hV4
  go_wp2_with fail
  go_loopw [5, 6, 7] (fun x5 x6 x7 wr => ∃ (i : Nat) (K : PRS) (keys : List ByteArray) (sums : List Nat) (so : Option Addr) (sc : Nat), i ≤ en ∧ i ≤ 8 ∧ x7 = .int .i64 i ∧ Sm w wr gx ob i1 i2 sb so sc K x5 x6 (.slice none 0 0) (.slice none 0 0) keys sums [] [] ∧ Hid (KS keys sums K ∧ okL K ∧ (∀ p ∈ K, p.1.size ≤ 32) ∧ keys.length ≤ 60 * i)) (fun _ _ x7 _ => 8 - (intOf x7).toNat)
  case atStart => exact ⟨0, [], [], [], some ⟨rb, 0, none⟩, 3, Nat.zero_le _, Nat.zero_le _, rfl, hS4, Lib.hid ks0⟩
  case round =>
    clear hS4
    obtain ⟨i, K, keys, sums, so, sc, hi, hi8, rfl, hS, hI⟩ := hrel
    obtain ⟨wo, rfl⟩ : ∃ wo, wo = wr := ⟨_, rfl⟩
    by_cases hin : i < en ∧ i < 8
    · obtain ⟨hin1, hin2⟩ := hin
      have d1 : decide ((i : Int) < (en : Int)) = true := by simp; omega
      have d2 : decide ((i : Int) < 8) = true := by simp; omega
      have hil : i < eps.length := by rw [← hen.out]; exact hin1
      obtain ⟨eb, eo, rfl, heb, _⟩ := hx.addr (by omega)
      obtain ⟨cs, -, hc, ra, rcap, hcs, hr⟩ := hx.get i hil
      obtain ⟨L, hL⟩ : ∃ L, L = eps[i] := ⟨_, rfl⟩
      rw [← hL] at hcs hr
      have q0 : w.cell? ⟨eb, eo + i, none⟩ = some (.slice ra L.length rcap) := by rw [hcs] at hc; simpa using hc 0 (by omega)
      obtain ⟨n, hn⟩ : ∃ n, n = L.length := ⟨_, rfl⟩
      rw [← hn] at q0
      have hnl := hr.len
      rw [← hn] at hnl
      replace hL := Lib.hid hL
      replace hn := Lib.hid hn
      clear hc hcs hx
      have hI0 := hI.out
      have hin0 : Hid (KS keys sums (foldKeep 0 (([] : List TRecord).map recP) K) ∧ CM [] (([] : List TRecord).map recP) ∧ (∀ r ∈ ([] : List TRecord), r.fKey.size ≤ 32 ∧ okR (recP r) ∧ wfD r) ∧ ([] : List TRecord).length ≤ 0 ∧ keys.length ≤ 60 * i + 0) := Lib.hid ⟨hI0.1, CM.nil, fun r h => absurd h (by simp), Nat.le_refl _, hI0.2.2.2⟩
      clear hI0
      go_wp2_with fail
      go_loopw [5, 6, 8, 9, 10] (fun x5 x6 x8 x9 x10 wr => ∃ (j : Nat) (keys : List ByteArray) (sums : List Nat) (came : List ByteArray) (l : List TRecord), j ≤ n ∧ j ≤ 60 ∧ x10 = .int .i64 j ∧ Sm w wr gx ob i1 i2 sb so sc K x5 x6 x8 x9 keys sums came l ∧ Hid (KS keys sums (foldKeep 0 (l.map recP) K) ∧ CM came (l.map recP) ∧ (∀ r ∈ l, r.fKey.size ≤ 32 ∧ okR (recP r) ∧ wfD r) ∧ l.length ≤ j ∧ keys.length ≤ 60 * i + j)) (fun _ _ _ _ x10 _ => 60 - (intOf x10).toNat)
      case atStart => exact ⟨0, keys, sums, [], [], Nat.zero_le _, Nat.zero_le _, rfl, hS.newC, hin0⟩
      case round =>
        obtain ⟨j, keys', sums', came, l, hj, hj60, rfl, hSj, hIj⟩ := hrel
        obtain ⟨wi, rfl⟩ : ∃ wi, wi = wr := ⟨_, rfl⟩
        have hbwi := hSj.ep.bel
        have q0i := (hbwi.cell (p := ⟨eb, eo + i, none⟩) heb).trans q0
        by_cases hjn : j < n ∧ j < 60
        · obtain ⟨hj1, hj2⟩ := hjn
          have d3 : decide ((j : Int) < (n : Int)) = true := by simp; omega
          have d4 : decide ((j : Int) < 60) = true := by simp; omega
          have hjl : j < L.length := by rw [← hn.out]; exact hj1
          obtain ⟨hrE, hrW⟩ := recs_sla hr
          obtain ⟨rb', ro, rfl, hrb', _⟩ := hrE.addr (by omega)
          obtain ⟨cs, -, hc, hcs⟩ := hrE.get j hjl
          obtain ⟨r, hr0⟩ : ∃ r, r = L[j] := ⟨_, rfl⟩
          rw [← hr0] at hcs
          have hrok : okR (recP r) ∧ r.fVal = (r.fVal.toNat : Nat) ∧ wfD r := by
            obtain ⟨cs2, h2⟩ := SlA.all hr r (by rw [hr0]; exact List.getElem_mem hjl)
            exact ⟨(rec_ok h2).1, (rec_ok h2).2, h2.enc.2⟩
          have t0 : wi.cell? ⟨rb', ro + j * 5, none⟩ = some (.int .i64 r.fProducer) := (hbwi.cell (p := ⟨rb', ro + j * 5, none⟩) hrb').trans (by rw [hcs] at hc; simpa [encD, Nat.add_assoc] using hc 0 (by omega))
          have t1 : wi.cell? ⟨rb', ro + j * 5 + 1, none⟩ = some (.int .i64 r.fSeq) := (hbwi.cell (p := ⟨rb', ro + j * 5 + 1, none⟩) hrb').trans (by rw [hcs] at hc; simpa [encD, Nat.add_assoc] using hc 1 (by omega))
          have t2 : wi.cell? ⟨rb', ro + j * 5 + 2, none⟩ = some (.int .i64 r.fPart) := (hbwi.cell (p := ⟨rb', ro + j * 5 + 2, none⟩) hrb').trans (by rw [hcs] at hc; simpa [encD, Nat.add_assoc] using hc 2 (by omega))
          have t3 : wi.cell? ⟨rb', ro + j * 5 + 3, none⟩ = some (.string r.fKey) := (hbwi.cell (p := ⟨rb', ro + j * 5 + 3, none⟩) hrb').trans (by rw [hcs] at hc; simpa [encD, Nat.add_assoc] using hc 3 (by omega))
          have t4 : wi.cell? ⟨rb', ro + j * 5 + 4, none⟩ = some (.int .u32 r.fVal) := (hbwi.cell (p := ⟨rb', ro + j * 5 + 4, none⟩) hrb').trans (by rw [hcs] at hc; simpa [encD, Nat.add_assoc] using hc 4 (by omega))
          replace hr0 := Lib.hid hr0
          replace hrok := Lib.hid hrok
          clear hc hcs hrE hrW hr
          go_upto_region 16 with fail
          refine Code.wp_world ?_
          intro w5 hw5
          have hb5 : Below wi.heap.size wi w5 := by rw [hw5]; exact belowAlloc _ _
          have hR5 : Blk w5 wi.heap.size #[.int .i64 r.fProducer, .int .i64 r.fSeq, .int .i64 r.fPart, .string r.fKey, .int .u32 r.fVal] 47 := by rw [hw5]; exact Blk.new _ _ _
          have hlf := fun g e => (hSj.ls.lt g e).2
          have hS5 := hSj.below hb5
          obtain ⟨zr, hzr⟩ : ∃ zr, zr = wi.heap.size := ⟨_, rfl⟩
          rw [← hzr] at hR5 hlf ⊢
          replace hzr := Lib.hid hzr
          replace hlf := Lib.hid hlf
          clear hw5 hb5 hSj t0 t1 t2 t3 t4 q0i hbwi
          have r0 := hR5.cellAt (i := 0) (v := .int .i64 r.fProducer) rfl
          have r1 := hR5.cellAt (i := 1) (v := .int .i64 r.fSeq) rfl
          have r2 := hR5.cellAt (i := 2) (v := .int .i64 r.fPart) rfl
          have r3 := hR5.cellAt (i := 3) (v := .string r.fKey) rfl
          have r4 := hR5.cellAt (i := 4) (v := .int .u32 r.fVal) rfl
          obtain ⟨ka, kc, rfl, -, -, -⟩ := hS5.ks.slice
          obtain ⟨ua, uc, rfl, -, -, -⟩ := hS5.us.slice
          obtain ⟨ca, cc, rfl, -, -, -⟩ := hS5.cs.slice
          obtain ⟨la, lc, rfl, -, -, -⟩ := hS5.ls.slice
          obtain ⟨nk, hnk⟩ : ∃ nk, nk = keys'.length := ⟨_, rfl⟩
          obtain ⟨nu, hnu⟩ : ∃ nu, nu = sums'.length := ⟨_, rfl⟩
          obtain ⟨nc, hnc⟩ : ∃ nc, nc = came.length := ⟨_, rfl⟩
          obtain ⟨nl, hnl'⟩ : ∃ nl, nl = l.length := ⟨_, rfl⟩
          rw [← hnk, ← hnu, ← hnc, ← hnl'] at hS5
          rw [← hnl'] at hlf
          rw [← hnk, ← hnu, ← hnc, ← hnl']
          replace hnk := Lib.hid hnk
          replace hnu := Lib.hid hnu
          replace hnc := Lib.hid hnc
          replace hnl' := Lib.hid hnl'
          by_cases hbg : 32 < r.fKey.size
          · have d5 : decide ((32 : Int) < (r.fKey.size : Int)) = true := by simp; omega
            have hIj' : Hid (KS keys' sums' (foldKeep 0 (l.map recP) K) ∧ CM came (l.map recP) ∧ (∀ r ∈ l, r.fKey.size ≤ 32 ∧ okR (recP r) ∧ wfD r) ∧ l.length ≤ j + 1 ∧ keys'.length ≤ 60 * i + (j + 1)) := Lib.hid ⟨hIj.out.1, hIj.out.2.1, hIj.out.2.2.1, Nat.le_succ_of_le hIj.out.2.2.2.1, Nat.le_succ_of_le hIj.out.2.2.2.2⟩
            clear hIj
            go_wp2_with fail
            go_roundw
            case rel => exact ⟨j + 1, keys', sums', came, l, by omega, by omega, by go_num, hS5, hIj'⟩
            case measure => simp [intOf]; omega
          · have d5 : decide ((32 : Int) < (r.fKey.size : Int)) = false := by simp; omega
            have hnl60 : nl ≤ 60 := by have := hIj.out.2.2.2.1; have := hnl'.out; omega
            have hnk600 : nk ≤ 600 := by have := hIj.out.2.2.2.2; have := hnk.out; omega
            have hnu600 : nu ≤ 600 := by have := hIj.out.1.len; have := hnk.out; have := hnu.out; omega
            have hnc600 : nc ≤ 60 := by
              have h1 := hIj.out.2.1.length
              have h2 := len_keysK (l.map recP)
              rw [List.length_map] at h2
              have := hnc.out
              have := hnl'.out
              omega
            go_wp2_with (at_builtin; refine Shut.out ?kl)
            unfold Shut
            refine wpList_app1g rfl _ _ 28 rfl Try.underlying28 hiD hD0 hD1 hD2 rfl (by decide) (enc := encD) r rfl hS5.ls rfl (encD_len _) (encD_one _) (by have := hnl'.out; omega) (by have := hnl'.out; unfold maxLen; omega) hS5.ep.bel.size ?_
            intro g6 cap6 w6 hown6 hgr6
            rw [← hnl'.out] at hown6 hgr6 ⊢
            have hS6 := hS5.putL hgr6 hown6
            have hR6 := hgr6.blk hR5 (fun e => by have := hlf.out _ e; omega)
            clear hown6 hgr6 hS5 hR5 r0 r1 r2 r3 r4 hlf
            have hfk := find_any keys' r.fKey ka nk kc _ w6 (ownT_rd hS6.ks).1 (ownT_rd hS6.ks).2
            obtain ⟨fv, hfv⟩ : ∃ fv, fv = findI r.fKey keys' 0 := ⟨_, rfl⟩
            rw [← hfv] at hfk
            replace hfk := Lib.hid hfk
            replace hfv := Lib.hid hfv
            have r3 := hR6.cellAt (i := 3) (v := .string r.fKey) rfl
            go_wp2_with (go_at_call 26; refine Shut.out ?kf)
            unfold Shut
            refine hfk.out.mono ?_
            rintro e w7 ⟨rfl, hw7⟩
            obtain rfl : w6 = w7 := hw7.symm
            clear hfk
            dsimp only
            go_upto_if 73 with fail
            go_cut [5, 6, 12] from 74 to 84 (fun s5 s6 s12 wx => ∃ (keys7 : List ByteArray) (sums7 : List Nat) (nk7 nu7 kc7 uc7 q a : Nat) (ka7 ua7 : Option Addr), s5 = .slice ka7 nk7 kc7 ∧ s6 = .slice ua7 nu7 uc7 ∧ s12 = .int .i64 q ∧ nk7 = keys7.length ∧ nu7 = sums7.length ∧ Sm w wx gx ob i1 i2 sb so sc K (.slice ka7 nk7 kc7) (.slice ua7 nu7 uc7) (.slice ca nc cc) (.slice (some ⟨g6, 0, none⟩) (nl + 1) cap6) keys7 sums7 came (l ++ [r]) ∧ Blk wx zr #[.int .i64 r.fProducer, .int .i64 r.fSeq, .int .i64 r.fPart, .string r.fKey, .int .u32 r.fVal] 47 ∧ Hid (sums7[q]? = some a ∧ KS keys7 (sums7.set q ((a + r.fVal.toNat) % 4294967296)) (foldKeep 0 [recP r] (foldKeep 0 (l.map recP) K)) ∧ keys7.length ≤ 60 * i + (j + 1)))
            case first =>
              by_cases hmem : r.fKey ∈ keys'
              · obtain ⟨q, hq, hv, hkq⟩ := findI_in (i := 0) hmem
                have hqs : q < sums'.length := by rw [hIj.out.1.len]; exact hq
                have hks := hIj.out.1.old hkq (List.getElem?_eq_getElem hqs) hrok.out.1.2
                obtain rfl : fv = (q : Int) := by rw [hfv.out, hv, Nat.zero_add]
                have d6 : decide ((q : Int) < 0) = false := by simp
                have hfin : Hid (sums'[q]? = some sums'[q] ∧ KS keys' (sums'.set q ((sums'[q] + r.fVal.toNat) % 4294967296)) (foldKeep 0 [recP r] (foldKeep 0 (l.map recP) K)) ∧ keys'.length ≤ 60 * i + (j + 1)) := Lib.hid ⟨List.getElem?_eq_getElem hqs, hks, Nat.le_succ_of_le hIj.out.2.2.2.2⟩
                clear hkq hv hks hIj
                go_wp2_with fail
                go_meet
                case rel => exact ⟨keys', sums', nk, nu, kc, uc, q, _, ka, ua, rfl, rfl, rfl, hnk.out, hnu.out, hS6, hR6, hfin⟩
              · obtain rfl : fv = -1 := by rw [hfv.out, findI_out hmem]
                have hks := hIj.out.1.new hmem hrok.out.1.2
                have hnuk : nu = nk := by have := hIj.out.1.len; have := hnk.out; have := hnu.out; omega
                subst hnuk
                have hfin : Hid ((sums' ++ [0])[nu]? = some 0 ∧ KS (keys' ++ [r.fKey]) ((sums' ++ [0]).set nu ((0 + r.fVal.toNat) % 4294967296)) (foldKeep 0 [recP r] (foldKeep 0 (l.map recP) K)) ∧ (keys' ++ [r.fKey]).length ≤ 60 * i + (j + 1)) := Lib.hid ⟨by rw [hnu.out]; simp, by rw [hnk.out]; exact hks, by have := hIj.out.2.2.2.2; simp; omega⟩
                have hwr : wrap64 ((nu : Int) + 1 - 1) = (nu : Int) := by rw [Int.add_sub_cancel]; exact IntWalk.wrap64_in _ ⟨by omega, by omega⟩
                clear hks hIj hmem hfv
                go_wp2_with (at_builtin; refine Shut.out ?kk)
                unfold Shut
                refine wpList_app1g rfl _ _ 61 rfl Try.underlying61 hiT hT0 hT1 hT2 rfl (by decide) (enc := encT) r.fKey rfl hS6.ks rfl (encT_len _) (encT_one _) (by have := hnk.out; omega) (by have := hnk.out; unfold maxLen; omega) hS6.ep.bel.size ?_
                intro g8 cap8 w8 hown8 hgr8
                rw [← hnk.out] at hown8 hgr8 ⊢
                have hS8 := hS6.putK hgr8 hown8
                have hR8 := hgr8.blk hR6 (hS6.ks.ne_blk hR6 (by decide))
                clear hown8 hgr8 hS6 hR6 r3
                go_wp2_with (at_builtin; refine Shut.out ?ku)
                unfold Shut
                refine wpList_app1g rfl _ _ 62 rfl Try.underlying62 hiV hV0 hV1 hV2 rfl (by decide) (enc := encV) (0 : Nat) rfl hS8.us rfl (encV_len _) (encV_one _) (by have := hnu.out; omega) (by have := hnu.out; unfold maxLen; omega) hS8.ep.bel.size ?_
                intro g9 cap9 w9 hown9 hgr9
                rw [← hnu.out] at hown9 hgr9 ⊢
                have hS9 := hS8.putU hgr9 hown9
                have hR9 := hgr9.blk hR8 (hS8.us.ne_blk hR8 (by decide))
                clear hown9 hgr9 hS8 hR8
                go_wp2_with fail
                go_meet
                case rel => exact ⟨keys' ++ [r.fKey], sums' ++ [0], nu + 1, nu + 1, cap8, cap9, nu, 0, some ⟨g8, 0, none⟩, some ⟨g9, 0, none⟩, rfl, rfl, by go_num, by simp [hnk.out], by simp [hnu.out], hS9, hR9, hfin⟩
            case rest =>
              obtain ⟨keys7, sums7, nk7, nu7, kc7, uc7, q, a, ka7, ua7, rfl, rfl, rfl, hnk7, hnu7, hS0, hR0, hfin⟩ := hcut
              obtain ⟨w7, hw7⟩ : ∃ w7, w7 = wc := ⟨_, rfl⟩
              rw [← hw7] at hS0 hR0 ⊢
              have hS7 := hS0
              have hR7 := hR0
              clear hw7 hS0 hR0 hS6 hR6 r3
              replace hnk7 := Lib.hid hnk7
              replace hnu7 := Lib.hid hnu7
              obtain ⟨hq7, ha7⟩ := List.getElem?_eq_some_iff.1 hfin.out.1
              rcases hS7.us.form with ⟨-, h2⟩ | ⟨ug, cap', cells, hsl, -⟩
              · rw [h2] at hq7
                cases hq7
              · simp only [Value.slice.injEq] at hsl
                obtain ⟨rfl, -, rfl⟩ := hsl
                have hqn : q < nu7 := by rw [hnu7.out]; exact hq7
                have hcu := own_cellG hS7.us encV_len hq7
                have u0 : w7.cell? ⟨ug, q, none⟩ = some (.int .u32 (a : Nat)) := by
                  have := hcu.1 0 (by omega)
                  rw [ha7] at this
                  simpa [encV] using this
                have uf := hcu.2 q
                have r3 := hR7.cellAt (i := 3) (v := .string r.fKey) rfl
                have r4 := hR7.cellAt (i := 4) (v := .int .u32 r.fVal) rfl
                have hwr : IntKind.u32.wrap ((a : Int) + r.fVal) = (((a + r.fVal.toNat) % 4294967296 : Nat) : Int) := by
                  have h1 : IntKind.u32.wrap ((a : Int) + r.fVal) = ((a : Int) + r.fVal) % 4294967296 := rfl
                  rw [h1]
                  have := hrok.out.2.1
                  omega
                obtain ⟨sm, hsm⟩ : ∃ sm, sm = (a + r.fVal.toNat) % 4294967296 := ⟨_, rfl⟩
                rw [← hsm] at hwr hfin
                have hks := hfin.out.2.1
                have hcm := hIj.out.2.1
                have hok' : ∀ x ∈ l ++ [r], x.fKey.size ≤ 32 ∧ okR (recP x) ∧ wfD x := fun x hx => by
                  rcases List.mem_append.1 hx with h | h
                  · exact hIj.out.2.2.1 x h
                  · rw [List.mem_singleton.1 h]; exact ⟨by omega, hrok.out.1, hrok.out.2.2⟩
                have hll' : (l ++ [r]).length ≤ j + 1 := by have := hIj.out.2.2.2.1; simp; omega
                rw [← foldKeep_append 0 hI.out.1.srt, show l.map recP ++ [recP r] = (l ++ [r]).map recP by simp] at hks
                have hkl' := hfin.out.2.2
                replace hsm := Lib.hid hsm
                have hend := Lib.hid (And.intro hks (And.intro hcm (And.intro hok' (And.intro hll' hkl'))))
                clear hks hcm hok' hll' hkl' hfin ha7 hcu hIj
                go_upto_region 22 with fail
                refine wp_region_quiet_tail 6 (by kernel_rfl) (by kernel_rfl) ?_
                simp only [List.take_succ_cons, List.take_zero, List.drop_succ_cons, List.drop_zero]
                repeat (go_big_quiet_step (fail))
                refine wpQuiet_nil ?_
                rintro w8 ⟨m, hm⟩
                have hb8 : Below w7.heap.size w7 w8 := by rw [hm]; exact below_drewN (Below.refl _ _) m
                have hS8 := hS7.below hb8
                have hR8 := hR7.below hb8 hR7.lt
                have u08 : w8.cell? ⟨ug, q, none⟩ = some (.int .u32 (a : Nat)) := by rw [hm]; exact u0
                have uf8 : w8.frozen? ⟨ug, q, none⟩ = false := by rw [hm]; exact uf
                have r38 := hR8.cellAt (i := 3) (v := .string r.fKey) rfl
                clear hm hb8 hS7 hR7 u0 uf r3 r4
                go_upto_region 23 with fail
                refine Code.wp_world ?_
                intro w9 hw9
                have hS9 : Sm w w9 gx ob i1 i2 sb so sc K (.slice ka7 nk7 kc7) (.slice (some ⟨ug, 0, none⟩) nu7 uc7) (.slice ca nc cc) (.slice (some ⟨g6, 0, none⟩) (nl + 1) cap6) keys7 (sums7.set q sm) came (l ++ [r]) := by
                  rw [hw9]
                  exact hS8.setU hq7 sm
                have hR9 : Blk w9 zr #[.int .i64 r.fProducer, .int .i64 r.fSeq, .int .i64 r.fPart, .string r.fKey, .int .u32 r.fVal] 47 := by
                  rw [hw9]
                  obtain ⟨cs, hb⟩ := own_blkT hS8.us ug rfl
                  exact hR8.set_other (blk_ne hR8 hb (by decide)) _
                have r3 := hR9.cellAt (i := 3) (v := .string r.fKey) rfl
                have hfc := find_any came r.fKey ca nc cc _ w9 (ownT_rd hS9.cs).1 (ownT_rd hS9.cs).2
                clear hw9 hS8 hR8 u08 uf8 r38 hwr
                by_cases hmem : r.fKey ∈ came
                · obtain ⟨q2, -, hv, -⟩ := findI_in (i := 0) hmem
                  rw [hv, Nat.zero_add] at hfc
                  replace hfc := Lib.hid hfc
                  have d7 : decide ((q2 : Int) < 0) = false := by simp
                  have hend2 : Hid (KS keys7 (sums7.set q sm) (foldKeep 0 ((l ++ [r]).map recP) K) ∧ CM came ((l ++ [r]).map recP) ∧ (∀ x ∈ l ++ [r], x.fKey.size ≤ 32 ∧ okR (recP x) ∧ wfD x) ∧ (l ++ [r]).length ≤ j + 1 ∧ keys7.length ≤ 60 * i + (j + 1)) := Lib.hid ⟨hend.out.1, by rw [List.map_append]; exact hend.out.2.1.old (p := recP r) hmem, hend.out.2.2⟩
                  clear hv hend hmem
                  go_wp2_with (go_at_call 26; refine Shut.out ?kc1)
                  unfold Shut
                  refine hfc.out.mono ?_
                  rintro e w10 ⟨rfl, hw10⟩
                  obtain rfl : w9 = w10 := hw10.symm
                  clear hfc
                  dsimp only
                  go_wp2_with fail
                  go_roundw
                  case rel => exact ⟨j + 1, keys7, sums7.set q sm, came, l ++ [r], by omega, by omega, by go_num, hS9, hend2⟩
                  case measure => simp [intOf]; omega
                · rw [findI_out hmem] at hfc
                  replace hfc := Lib.hid hfc
                  have hend2 : Hid (KS keys7 (sums7.set q sm) (foldKeep 0 ((l ++ [r]).map recP) K) ∧ CM (came ++ [r.fKey]) ((l ++ [r]).map recP) ∧ (∀ x ∈ l ++ [r], x.fKey.size ≤ 32 ∧ okR (recP x) ∧ wfD x) ∧ (l ++ [r]).length ≤ j + 1 ∧ keys7.length ≤ 60 * i + (j + 1)) := Lib.hid ⟨hend.out.1, by rw [List.map_append]; exact hend.out.2.1.new (p := recP r) hmem, hend.out.2.2⟩
                  clear hend hmem
                  go_wp2_with (go_at_call 26; refine Shut.out ?kc2)
                  unfold Shut
                  refine hfc.out.mono ?_
                  rintro e w10 ⟨rfl, hw10⟩
                  obtain rfl : w9 = w10 := hw10.symm
                  clear hfc
                  dsimp only
                  go_wp2_with (at_builtin; refine Shut.out ?kc3)
                  unfold Shut
                  refine wpList_app1g rfl _ _ 61 rfl Try.underlying61 hiT hT0 hT1 hT2 rfl (by decide) (enc := encT) r.fKey rfl hS9.cs rfl (encT_len _) (encT_one _) (by have := hnc.out; omega) (by have := hnc.out; unfold maxLen; omega) hS9.ep.bel.size ?_
                  intro g10 cap10 w10 hown10 hgr10
                  have hS10 := hS9.putC hgr10 hown10
                  clear hown10 hgr10 hS9 hR9 r3
                  go_wp2_with fail
                  go_roundw
                  case rel => exact ⟨j + 1, keys7, sums7.set q sm, came ++ [r.fKey], l ++ [r], by omega, by omega, by go_num, hS10, hend2⟩
                  case measure => simp [intOf]; omega
        · by_cases hj1n : j < n
          · have hj60n : ¬ j < 60 := fun h => hjn ⟨hj1n, h⟩
            have d3 : decide ((j : Int) < (n : Int)) = true := by simp; omega
            have d4 : decide ((j : Int) < 60) = false := by simp; omega
            obtain ⟨ka, kc, rfl, -, -, -⟩ := hSj.ks.slice
            obtain ⟨ua, uc, rfl, -, -, -⟩ := hSj.us.slice
            obtain ⟨ca, cc, rfl, -, -, -⟩ := hSj.cs.slice
            obtain ⟨la, lc, rfl, -, -, -⟩ := hSj.ls.slice
            obtain ⟨K2, hK2⟩ : ∃ K2, K2 = foldKeep 0 (l.map recP) K := ⟨_, rfl⟩
            obtain ⟨M, hM⟩ : ∃ M, M = sortP (foldOut 0 (l.map recP) K) := ⟨_, rfl⟩
            obtain ⟨nM, hnM⟩ : ∃ nM, nM = M.length := ⟨_, rfl⟩
            obtain ⟨hI1, hI2, hI3, hI4⟩ := hI.out
            obtain ⟨hJ1, hJ2, hJ3, hJ4, hJ5⟩ := hIj.out
            rw [← hK2] at hJ1
            have hlaw := sums_law (K := K) (l := l.map recP) hI1.srt (by rw [← hK2]; exact hJ1) hJ2
            rw [← hM] at hlaw
            have hK2s : Srt K2 := hJ1.srt
            have hlok : okL (l.map recP) := fun p hp => by
              obtain ⟨x, hx, rfl⟩ := List.mem_map.1 hp
              exact (hJ3 x hx).2.1
            have hl32 : ∀ p ∈ l.map recP, p.1.size ≤ 32 := fun p hp => by
              obtain ⟨x, hx, rfl⟩ := List.mem_map.1 hp
              exact (hJ3 x hx).1
            have hK2ok : okL K2 := by rw [hK2]; exact foldKeep_ok (by omega) hI1.srt hlok hI2
            have hK232 : ∀ p ∈ K2, p.1.size ≤ 32 := fun p hp => by
              rw [hK2] at hp
              rcases foldKeep_keys hI1.srt hp with h | h
              · obtain ⟨q, hq, e⟩ := mem_keysK.1 h
                rw [← e]
                exact hl32 q hq
              · exact hI3 p h
            have hgK := goodS_sums (arg := 0) hI1.srt hI3
            have hgK2 := goodS_sums (arg := 0) hK2s hK232
            have hKl : K.length ≤ 5864062014805 := by rw [hI1.length]; omega
            have hrecs : SlA wi.heap.size 5 (RRecord wi.heap.size) wi la lc l := by
              obtain ⟨ao, cap, he, hs⟩ := own_recs hSj.ls (fun x hx => (hJ3 x hx).2.2)
              simp only [Value.slice.injEq] at he
              obtain ⟨rfl, -, rfl⟩ := he
              exact hs
            have hsok : okS [[], K, []] := fun x hx => by
              simp only [List.mem_cons, List.not_mem_nil, or_false] at hx
              rcases hx with rfl | rfl | rfl
              · exact fun p hp => absurd hp (by simp)
              · exact hI2
              · exact fun p hp => absurd hp (by simp)
            have hslen : ∀ x ∈ ([[], K, []] : ST), x.length ≤ 5864062014805 := fun x hx => by
              simp only [List.mem_cons, List.not_mem_nil, or_false] at hx
              rcases hx with rfl | rfl | rfl
              · exact Nat.zero_le _
              · exact hKl
              · exact Nat.zero_le _
            obtain ⟨nl, hnl'⟩ : ∃ nl, nl = l.length := ⟨_, rfl⟩
            obtain ⟨nc, hnc⟩ : ∃ nc, nc = came.length := ⟨_, rfl⟩
            have hnMc : nM = nc := by rw [hnM, hnc]; exact hlaw.1
            have hrun := hSj.ep.runK (by omega) (by omega) rfl hSj.sv.own.rd.2 hrecs (so := so) (sc := sc) (sl := 3) rfl hnl' hsok hslen hgK (by omega) (M := M) (K := K2) hM hK2 hnM
            obtain ⟨nk, hnk⟩ : ∃ nk, nk = keys'.length := ⟨_, rfl⟩
            obtain ⟨nu, hnu⟩ : ∃ nu, nu = sums'.length := ⟨_, rfl⟩
            rw [← hnl', ← hnc, ← hnk, ← hnu] at hSj
            rw [← hnl', ← hnc, ← hnk, ← hnu]
            have hnku : nu = nk := by rw [hnu, hnk, hJ1.len]
            replace hnk := Lib.hid hnk
            replace hnu := Lib.hid hnu
            have hg0 := hSj.ep.cell
            have hs0 := hSj.sv.cell
            have hkeep : Hid (KS keys' sums' K2 ∧ okL K2 ∧ (∀ p ∈ K2, p.1.size ≤ 32) ∧ keys'.length ≤ 60 * (i + 1)) := Lib.hid ⟨hJ1, hK2ok, hK232, by omega⟩
            replace hgK2 := Lib.hid hgK2
            replace hlaw := Lib.hid hlaw
            replace hK2 := Lib.hid hK2
            replace hM := Lib.hid hM
            replace hnM := Lib.hid hnM
            replace hnl' := Lib.hid hnl'
            replace hnc := Lib.hid hnc
            replace hrun := Lib.hid hrun
            subst hnMc
            subst hnku
            clear hI1 hI2 hI3 hI4 hJ1 hJ2 hJ3 hJ4 hJ5 hK2s hlok hl32 hK2ok hK232 hgK hKl hrecs hsok hslen hI hIj hr
            go_wp2_with (go_at_call 10; refine Shut.out ?kr2a)
            unfold Shut
            refine hrun.out.mono ?_
            rintro e w5 ⟨qa, qac, qb, qbc, rfl, hM5, hT5, hb5⟩
            have hS5 := hSj.below hb5
            clear hrun hb5 hSj hg0 hs0
            dsimp only
            go_upto_region 26 with fail
            refine Code.wp_world ?_
            intro w6 hw6
            have hb6 : Below w5.heap.size w5 w6 := by rw [hw6]; exact belowAlloc _ _
            have hS6 := hS5.below hb6
            have hV6 : SvB w6 w.heap.size w5.heap.size qb 3 qbc [[], K2, []] := ⟨by rw [hw6]; exact Blk.new _ _ _, StO.below hT5 hb6⟩
            have hM6 := OwnL.below hM5 hb6 (Nat.le_refl _)
            obtain ⟨zt, hzt⟩ : ∃ zt, zt = w5.heap.size := ⟨_, rfl⟩
            rw [← hzt] at hV6 ⊢
            replace hzt := Lib.hid hzt
            clear hw6 hb6 hS5 hM5 hT5
            have hgd := good_any (sumsOps 0) [[], K2, []] (some ⟨ob, 0, none⟩) qb 3 qbc _ w6 (Nat.le_refl _) (hS6.ep.sums.sla rfl) hV6.own.rd.2
            rw [hgK2.out] at hgd
            replace hgd := Lib.hid hgd
            have g6 := hS6.ep.cell
            have v6 := hV6.cell
            have hbw6 := hS6.ep.bel
            go_wp2_with (go_at_call 17; refine Shut.out ?kr2b)
            unfold Shut
            refine hgd.out.mono ?_
            rintro e w7 ⟨rfl, hb7⟩
            have hS7 := hS6.below hb7
            have hV7 := hV6.below hb7
            have hM7 := OwnL.below hM6 hb7 (Nat.le_refl _)
            have hnMl := (OwnR.rd hM7).2.len
            rw [← hnM.out] at hnMl
            clear hgd hb7 hS6 hV6 hM6 g6 v6 hbw6
            dsimp only
            go_wp2_with fail
            go_loopw [16] (fun x16 wr => ∃ k : Nat, k ≤ nM ∧ x16 = .int .i64 k ∧ Below w7.heap.size w7 wr) (fun x16 _ => nM - (intOf x16).toNat)
            case atStart => exact ⟨0, Nat.zero_le _, rfl, Below.refl _ _⟩
            case round =>
              obtain ⟨k, hk, rfl, hbk⟩ := hrel
              have hSk := hS7.below hbk
              have hVk := hV7.below hbk
              have hMk := OwnL.below hM7 hbk (Nat.le_refl _)
              by_cases hkn : k < nM
              · have d8 : decide ((k : Int) < (nM : Int)) = true := by simp; omega
                have hkM : k < M.length := by rw [← hnM.out]; exact hkn
                obtain ⟨mx, mo, rfl, hmx, _⟩ := (OwnR.rd hMk).2.addr (by omega)
                obtain ⟨cs, -, hc, hcs⟩ := (OwnR.rd hMk).2.get k hkM
                have p0 : wr.cell? ⟨mx, mo + k * 2, none⟩ = some (.string M[k].1) := by rw [hcs] at hc; simpa [encR] using hc 0 (by omega)
                have p1 : wr.cell? ⟨mx, mo + k * 2 + 1, none⟩ = some (.int .u32 (M[k].2 : Nat)) := by rw [hcs] at hc; simpa [encR, Nat.add_assoc] using hc 1 (by omega)
                obtain ⟨hc1, hk1, hs1⟩ := hlaw.out.2.2 M[k] (List.getElem_mem hkM)
                obtain ⟨q, hq, hv, hkq⟩ := findI_in (i := 0) hk1
                have hsq := hs1 q hkq
                obtain ⟨q2, hq2, hv2, -⟩ := findI_in (i := 0) hc1
                obtain ⟨pk, hpk⟩ : ∃ pk, pk = M[k].1 := ⟨_, rfl⟩
                obtain ⟨pv, hpv⟩ : ∃ pv, pv = M[k].2 := ⟨_, rfl⟩
                rw [← hpk] at p0 hv hv2
                rw [← hpv] at p1 hsq
                have hf1 := find_any keys' pk ka nu kc _ wr (ownT_rd hSk.ks).1 (ownT_rd hSk.ks).2
                rw [hv, Nat.zero_add] at hf1
                have hf2 := fun W (hW : Below wr.heap.size wr W) => find_any came pk ca nM cc _ W (ownT_rd (hSk.below hW).cs).1 (ownT_rd (hSk.below hW).cs).2
                rw [hv2, Nat.zero_add] at hf2
                replace hf1 := Lib.hid hf1
                replace hf2 := Lib.hid hf2
                replace hpk := Lib.hid hpk
                replace hpv := Lib.hid hpv
                replace hsq := Lib.hid hsq
                clear hc hcs hc1 hk1 hs1 hkq hv hv2
                go_wp2_with (go_at_call 26; refine Shut.out ?kr2c)
                unfold Shut
                refine hf1.out.mono ?_
                rintro e w8 ⟨rfl, hw8⟩
                obtain rfl : wr = w8 := hw8.symm
                clear hf1
                dsimp only
                have hqs : q < sums'.length := (List.getElem?_eq_some_iff.1 hsq.out).1
                have hqn : q < nu := by rw [hnu.out]; exact hqs
                rcases hSk.us.form with ⟨-, h2⟩ | ⟨ug, cap', cells, hsl, -⟩
                · rw [h2] at hqs
                  cases hqs
                · simp only [Value.slice.injEq] at hsl
                  obtain ⟨rfl, -, rfl⟩ := hsl
                  have u0 : wr.cell? ⟨ug, q, none⟩ = some (.int .u32 (pv : Nat)) := by
                    have h1 := (own_cellG hSk.us encV_len hqs).1 0 (by omega)
                    rw [(List.getElem?_eq_some_iff.1 hsq.out).2] at h1
                    simpa [encV] using h1
                  have e1 : decide ((q : Int) < 0) = false := by simp
                  have e2 : decide ((q2 : Int) < 0) = false := by simp
                  have hbwk := hSk.ep.bel
                  have hf2' := fun (u : Wd wr) => hf2.out u.v u.h
                  have w0 := Wd.cell u0 (World.lt_of_cell u0)
                  have y0 := Wd.cell p0 (World.lt_of_cell p0)
                  have y1 := Wd.cell p1 (World.lt_of_cell p1)
                  have e4 : ((pv : Int) != (pv : Int)) = false := by simp
                  have hbk2 := hbk
                  by_cases hk0 : 0 < k
                  · have e3 : decide ((0 : Int) < (k : Int)) = true := by simp; omega
                    obtain ⟨k', rfl⟩ : ∃ k', k = k' + 1 := ⟨k - 1, by omega⟩
                    have hk'M : k' < M.length := by omega
                    obtain ⟨cs3, -, hc3, hcs3⟩ := (OwnR.rd hMk).2.get k' hk'M
                    have p3 : wr.cell? ⟨mx, mo + k' * 2, none⟩ = some (.string M[k'].1) := by rw [hcs3] at hc3; simpa [encR] using hc3 0 (by omega)
                    have hless : Op.bytesLess M[k'].1.toList pk.toList = true := by
                      have hs := hlaw.out.2.1
                      unfold Srt at hs
                      have := List.pairwise_iff_getElem.1 hs k' (k' + 1) hk'M hkM (by omega)
                      rw [hpk.out]
                      exact this
                    obtain ⟨pj, hpj⟩ : ∃ pj, pj = M[k'].1 := ⟨_, rfl⟩
                    rw [← hpj] at p3 hless
                    have y3 := Wd.cell p3 (World.lt_of_cell p3)
                    have hkc : wrap64 (((k' + 1 : Nat) : Int) - 1) = (k' : Int) := by
                      rw [show (((k' + 1 : Nat) : Int) - 1) = (k' : Int) by omega]
                      exact IntWalk.wrap64_in _ ⟨by omega, by omega⟩
                    replace hpj := Lib.hid hpj
                    clear hc3 hcs3 p3 p0 p1 u0 hf2 hMk hSk hVk
                    go_upto_region 32 with fail
                    refine wp_region_below (by kernel_rfl) (by kernel_rfl) ?_
                    repeat (go_big_quiet_step ((go_at_call 26; exact Calls.quiet_below_same (hf2' _))))
                    refine wpQuiet_nil ?_
                    rintro _ ⟨u, rfl⟩
                    have hbu := hbk2.trans (u.h.mono hbk2.size)
                    go_wp2_with fail
                    go_roundw
                    case rel => exact ⟨k' + 1 + 1, by omega, by go_num, hbu⟩
                    case measure => simp [intOf]; omega
                  · obtain rfl : k = 0 := by omega
                    simp only [Nat.zero_mul, Nat.add_zero] at y0 y1
                    clear p0 p1 u0 hf2 hMk hSk hVk
                    go_upto_region 32 with fail
                    refine wp_region_below (by kernel_rfl) (by kernel_rfl) ?_
                    repeat (go_big_quiet_step ((go_at_call 26; exact Calls.quiet_below_same (hf2' _))))
                    refine wpQuiet_nil ?_
                    rintro _ ⟨u, rfl⟩
                    have hbu := hbk2.trans (u.h.mono hbk2.size)
                    go_wp2_with fail
                    go_roundw
                    case rel => exact ⟨1, by omega, rfl, hbu⟩
                    case measure => simp [intOf]; omega
              · have d8 : decide ((k : Int) < (nM : Int)) = false := by simp; omega
                have s8 := hSk.sv.cell
                have sf8 := hSk.sv.box.frozen 0
                have v8 := hVk.cell
                have hSn := hSk.next hsbw hVk
                clear hMk hM7 hS7 hV7 hbk
                go_wp2_with fail
                go_roundw
                case rel => exact ⟨i + 1, K2, keys', sums', qb, qbc, by omega, by omega, by go_num, hSn, hkeep⟩
                case measure => simp [intOf]; omega
          · have d3 : decide ((j : Int) < (n : Int)) = false := by simp; omega
            obtain ⟨ka, kc, rfl, -, -, -⟩ := hSj.ks.slice
            obtain ⟨ua, uc, rfl, -, -, -⟩ := hSj.us.slice
            obtain ⟨ca, cc, rfl, -, -, -⟩ := hSj.cs.slice
            obtain ⟨la, lc, rfl, -, -, -⟩ := hSj.ls.slice
            obtain ⟨K2, hK2⟩ : ∃ K2, K2 = foldKeep 0 (l.map recP) K := ⟨_, rfl⟩
            obtain ⟨M, hM⟩ : ∃ M, M = sortP (foldOut 0 (l.map recP) K) := ⟨_, rfl⟩
            obtain ⟨nM, hnM⟩ : ∃ nM, nM = M.length := ⟨_, rfl⟩
            obtain ⟨hI1, hI2, hI3, hI4⟩ := hI.out
            obtain ⟨hJ1, hJ2, hJ3, hJ4, hJ5⟩ := hIj.out
            rw [← hK2] at hJ1
            have hlaw := sums_law (K := K) (l := l.map recP) hI1.srt (by rw [← hK2]; exact hJ1) hJ2
            rw [← hM] at hlaw
            have hK2s : Srt K2 := hJ1.srt
            have hlok : okL (l.map recP) := fun p hp => by
              obtain ⟨x, hx, rfl⟩ := List.mem_map.1 hp
              exact (hJ3 x hx).2.1
            have hl32 : ∀ p ∈ l.map recP, p.1.size ≤ 32 := fun p hp => by
              obtain ⟨x, hx, rfl⟩ := List.mem_map.1 hp
              exact (hJ3 x hx).1
            have hK2ok : okL K2 := by rw [hK2]; exact foldKeep_ok (by omega) hI1.srt hlok hI2
            have hK232 : ∀ p ∈ K2, p.1.size ≤ 32 := fun p hp => by
              rw [hK2] at hp
              rcases foldKeep_keys hI1.srt hp with h | h
              · obtain ⟨q, hq, e⟩ := mem_keysK.1 h
                rw [← e]
                exact hl32 q hq
              · exact hI3 p h
            have hgK := goodS_sums (arg := 0) hI1.srt hI3
            have hgK2 := goodS_sums (arg := 0) hK2s hK232
            have hKl : K.length ≤ 5864062014805 := by rw [hI1.length]; omega
            have hrecs : SlA wi.heap.size 5 (RRecord wi.heap.size) wi la lc l := by
              obtain ⟨ao, cap, he, hs⟩ := own_recs hSj.ls (fun x hx => (hJ3 x hx).2.2)
              simp only [Value.slice.injEq] at he
              obtain ⟨rfl, -, rfl⟩ := he
              exact hs
            have hsok : okS [[], K, []] := fun x hx => by
              simp only [List.mem_cons, List.not_mem_nil, or_false] at hx
              rcases hx with rfl | rfl | rfl
              · exact fun p hp => absurd hp (by simp)
              · exact hI2
              · exact fun p hp => absurd hp (by simp)
            have hslen : ∀ x ∈ ([[], K, []] : ST), x.length ≤ 5864062014805 := fun x hx => by
              simp only [List.mem_cons, List.not_mem_nil, or_false] at hx
              rcases hx with rfl | rfl | rfl
              · exact Nat.zero_le _
              · exact hKl
              · exact Nat.zero_le _
            obtain ⟨nl, hnl'⟩ : ∃ nl, nl = l.length := ⟨_, rfl⟩
            obtain ⟨nc, hnc⟩ : ∃ nc, nc = came.length := ⟨_, rfl⟩
            have hnMc : nM = nc := by rw [hnM, hnc]; exact hlaw.1
            have hrun := hSj.ep.runK (by omega) (by omega) rfl hSj.sv.own.rd.2 hrecs (so := so) (sc := sc) (sl := 3) rfl hnl' hsok hslen hgK (by omega) (M := M) (K := K2) hM hK2 hnM
            obtain ⟨nk, hnk⟩ : ∃ nk, nk = keys'.length := ⟨_, rfl⟩
            obtain ⟨nu, hnu⟩ : ∃ nu, nu = sums'.length := ⟨_, rfl⟩
            rw [← hnl', ← hnc, ← hnk, ← hnu] at hSj
            rw [← hnl', ← hnc, ← hnk, ← hnu]
            have hnku : nu = nk := by rw [hnu, hnk, hJ1.len]
            replace hnk := Lib.hid hnk
            replace hnu := Lib.hid hnu
            have hg0 := hSj.ep.cell
            have hs0 := hSj.sv.cell
            have hkeep : Hid (KS keys' sums' K2 ∧ okL K2 ∧ (∀ p ∈ K2, p.1.size ≤ 32) ∧ keys'.length ≤ 60 * (i + 1)) := Lib.hid ⟨hJ1, hK2ok, hK232, by omega⟩
            replace hgK2 := Lib.hid hgK2
            replace hlaw := Lib.hid hlaw
            replace hK2 := Lib.hid hK2
            replace hM := Lib.hid hM
            replace hnM := Lib.hid hnM
            replace hnl' := Lib.hid hnl'
            replace hnc := Lib.hid hnc
            replace hrun := Lib.hid hrun
            subst hnMc
            subst hnku
            clear hI1 hI2 hI3 hI4 hJ1 hJ2 hJ3 hJ4 hJ5 hK2s hlok hl32 hK2ok hK232 hgK hKl hrecs hsok hslen hI hIj hr
            go_wp2_with (go_at_call 10; refine Shut.out ?kr1a)
            unfold Shut
            refine hrun.out.mono ?_
            rintro e w5 ⟨qa, qac, qb, qbc, rfl, hM5, hT5, hb5⟩
            have hS5 := hSj.below hb5
            clear hrun hb5 hSj hg0 hs0
            dsimp only
            go_upto_region 26 with fail
            refine Code.wp_world ?_
            intro w6 hw6
            have hb6 : Below w5.heap.size w5 w6 := by rw [hw6]; exact belowAlloc _ _
            have hS6 := hS5.below hb6
            have hV6 : SvB w6 w.heap.size w5.heap.size qb 3 qbc [[], K2, []] := ⟨by rw [hw6]; exact Blk.new _ _ _, StO.below hT5 hb6⟩
            have hM6 := OwnL.below hM5 hb6 (Nat.le_refl _)
            obtain ⟨zt, hzt⟩ : ∃ zt, zt = w5.heap.size := ⟨_, rfl⟩
            rw [← hzt] at hV6 ⊢
            replace hzt := Lib.hid hzt
            clear hw6 hb6 hS5 hM5 hT5
            have hgd := good_any (sumsOps 0) [[], K2, []] (some ⟨ob, 0, none⟩) qb 3 qbc _ w6 (Nat.le_refl _) (hS6.ep.sums.sla rfl) hV6.own.rd.2
            rw [hgK2.out] at hgd
            replace hgd := Lib.hid hgd
            have g6 := hS6.ep.cell
            have v6 := hV6.cell
            have hbw6 := hS6.ep.bel
            go_wp2_with (go_at_call 17; refine Shut.out ?kr1b)
            unfold Shut
            refine hgd.out.mono ?_
            rintro e w7 ⟨rfl, hb7⟩
            have hS7 := hS6.below hb7
            have hV7 := hV6.below hb7
            have hM7 := OwnL.below hM6 hb7 (Nat.le_refl _)
            have hnMl := (OwnR.rd hM7).2.len
            rw [← hnM.out] at hnMl
            clear hgd hb7 hS6 hV6 hM6 g6 v6 hbw6
            dsimp only
            go_wp2_with fail
            go_loopw [16] (fun x16 wr => ∃ k : Nat, k ≤ nM ∧ x16 = .int .i64 k ∧ Below w7.heap.size w7 wr) (fun x16 _ => nM - (intOf x16).toNat)
            case atStart => exact ⟨0, Nat.zero_le _, rfl, Below.refl _ _⟩
            case round =>
              obtain ⟨k, hk, rfl, hbk⟩ := hrel
              have hSk := hS7.below hbk
              have hVk := hV7.below hbk
              have hMk := OwnL.below hM7 hbk (Nat.le_refl _)
              by_cases hkn : k < nM
              · have d8 : decide ((k : Int) < (nM : Int)) = true := by simp; omega
                have hkM : k < M.length := by rw [← hnM.out]; exact hkn
                obtain ⟨mx, mo, rfl, hmx, _⟩ := (OwnR.rd hMk).2.addr (by omega)
                obtain ⟨cs, -, hc, hcs⟩ := (OwnR.rd hMk).2.get k hkM
                have p0 : wr.cell? ⟨mx, mo + k * 2, none⟩ = some (.string M[k].1) := by rw [hcs] at hc; simpa [encR] using hc 0 (by omega)
                have p1 : wr.cell? ⟨mx, mo + k * 2 + 1, none⟩ = some (.int .u32 (M[k].2 : Nat)) := by rw [hcs] at hc; simpa [encR, Nat.add_assoc] using hc 1 (by omega)
                obtain ⟨hc1, hk1, hs1⟩ := hlaw.out.2.2 M[k] (List.getElem_mem hkM)
                obtain ⟨q, hq, hv, hkq⟩ := findI_in (i := 0) hk1
                have hsq := hs1 q hkq
                obtain ⟨q2, hq2, hv2, -⟩ := findI_in (i := 0) hc1
                obtain ⟨pk, hpk⟩ : ∃ pk, pk = M[k].1 := ⟨_, rfl⟩
                obtain ⟨pv, hpv⟩ : ∃ pv, pv = M[k].2 := ⟨_, rfl⟩
                rw [← hpk] at p0 hv hv2
                rw [← hpv] at p1 hsq
                have hf1 := find_any keys' pk ka nu kc _ wr (ownT_rd hSk.ks).1 (ownT_rd hSk.ks).2
                rw [hv, Nat.zero_add] at hf1
                have hf2 := fun W (hW : Below wr.heap.size wr W) => find_any came pk ca nM cc _ W (ownT_rd (hSk.below hW).cs).1 (ownT_rd (hSk.below hW).cs).2
                rw [hv2, Nat.zero_add] at hf2
                replace hf1 := Lib.hid hf1
                replace hf2 := Lib.hid hf2
                replace hpk := Lib.hid hpk
                replace hpv := Lib.hid hpv
                replace hsq := Lib.hid hsq
                clear hc hcs hc1 hk1 hs1 hkq hv hv2
                go_wp2_with (go_at_call 26; refine Shut.out ?kr1c)
                unfold Shut
                refine hf1.out.mono ?_
                rintro e w8 ⟨rfl, hw8⟩
                obtain rfl : wr = w8 := hw8.symm
                clear hf1
                dsimp only
                have hqs : q < sums'.length := (List.getElem?_eq_some_iff.1 hsq.out).1
                have hqn : q < nu := by rw [hnu.out]; exact hqs
                rcases hSk.us.form with ⟨-, h2⟩ | ⟨ug, cap', cells, hsl, -⟩
                · rw [h2] at hqs
                  cases hqs
                · simp only [Value.slice.injEq] at hsl
                  obtain ⟨rfl, -, rfl⟩ := hsl
                  have u0 : wr.cell? ⟨ug, q, none⟩ = some (.int .u32 (pv : Nat)) := by
                    have h1 := (own_cellG hSk.us encV_len hqs).1 0 (by omega)
                    rw [(List.getElem?_eq_some_iff.1 hsq.out).2] at h1
                    simpa [encV] using h1
                  have e1 : decide ((q : Int) < 0) = false := by simp
                  have e2 : decide ((q2 : Int) < 0) = false := by simp
                  have hbwk := hSk.ep.bel
                  have hf2' := fun (u : Wd wr) => hf2.out u.v u.h
                  have w0 := Wd.cell u0 (World.lt_of_cell u0)
                  have y0 := Wd.cell p0 (World.lt_of_cell p0)
                  have y1 := Wd.cell p1 (World.lt_of_cell p1)
                  have e4 : ((pv : Int) != (pv : Int)) = false := by simp
                  have hbk2 := hbk
                  by_cases hk0 : 0 < k
                  · have e3 : decide ((0 : Int) < (k : Int)) = true := by simp; omega
                    obtain ⟨k', rfl⟩ : ∃ k', k = k' + 1 := ⟨k - 1, by omega⟩
                    have hk'M : k' < M.length := by omega
                    obtain ⟨cs3, -, hc3, hcs3⟩ := (OwnR.rd hMk).2.get k' hk'M
                    have p3 : wr.cell? ⟨mx, mo + k' * 2, none⟩ = some (.string M[k'].1) := by rw [hcs3] at hc3; simpa [encR] using hc3 0 (by omega)
                    have hless : Op.bytesLess M[k'].1.toList pk.toList = true := by
                      have hs := hlaw.out.2.1
                      unfold Srt at hs
                      have := List.pairwise_iff_getElem.1 hs k' (k' + 1) hk'M hkM (by omega)
                      rw [hpk.out]
                      exact this
                    obtain ⟨pj, hpj⟩ : ∃ pj, pj = M[k'].1 := ⟨_, rfl⟩
                    rw [← hpj] at p3 hless
                    have y3 := Wd.cell p3 (World.lt_of_cell p3)
                    have hkc : wrap64 (((k' + 1 : Nat) : Int) - 1) = (k' : Int) := by
                      rw [show (((k' + 1 : Nat) : Int) - 1) = (k' : Int) by omega]
                      exact IntWalk.wrap64_in _ ⟨by omega, by omega⟩
                    replace hpj := Lib.hid hpj
                    clear hc3 hcs3 p3 p0 p1 u0 hf2 hMk hSk hVk
                    go_upto_region 32 with fail
                    refine wp_region_below (by kernel_rfl) (by kernel_rfl) ?_
                    repeat (go_big_quiet_step ((go_at_call 26; exact Calls.quiet_below_same (hf2' _))))
                    refine wpQuiet_nil ?_
                    rintro _ ⟨u, rfl⟩
                    have hbu := hbk2.trans (u.h.mono hbk2.size)
                    go_wp2_with fail
                    go_roundw
                    case rel => exact ⟨k' + 1 + 1, by omega, by go_num, hbu⟩
                    case measure => simp [intOf]; omega
                  · obtain rfl : k = 0 := by omega
                    simp only [Nat.zero_mul, Nat.add_zero] at y0 y1
                    clear p0 p1 u0 hf2 hMk hSk hVk
                    go_upto_region 32 with fail
                    refine wp_region_below (by kernel_rfl) (by kernel_rfl) ?_
                    repeat (go_big_quiet_step ((go_at_call 26; exact Calls.quiet_below_same (hf2' _))))
                    refine wpQuiet_nil ?_
                    rintro _ ⟨u, rfl⟩
                    have hbu := hbk2.trans (u.h.mono hbk2.size)
                    go_wp2_with fail
                    go_roundw
                    case rel => exact ⟨1, by omega, rfl, hbu⟩
                    case measure => simp [intOf]; omega
              · have d8 : decide ((k : Int) < (nM : Int)) = false := by simp; omega
                have s8 := hSk.sv.cell
                have sf8 := hSk.sv.box.frozen 0
                have v8 := hVk.cell
                have hSn := hSk.next hsbw hVk
                clear hMk hM7 hS7 hV7 hbk
                go_wp2_with fail
                go_roundw
                case rel => exact ⟨i + 1, K2, keys', sums', qb, qbc, by omega, by omega, by go_num, hSn, hkeep⟩
                case measure => simp [intOf]; omega
    · by_cases hi1n : i < en
      · have hi8n : ¬ i < 8 := fun h => hin ⟨hi1n, h⟩
        have d1 : decide ((i : Int) < (en : Int)) = true := by simp; omega
        have d2 : decide ((i : Int) < 8) = false := by simp; omega
        obtain ⟨ka, kc, rfl, -, -, -⟩ := hS.ks.slice
        have hkl := hI.out.1.length
        obtain ⟨xb, xo, kao, kc2, rfl, hxb, ek, -⟩ := StA.kept hS.sv.own.rd.2 (i := 1) (by simp)
        rw [show keptAt [[], K, []] 1 = K from rfl, hkl] at ek
        have v1 := hS.sv.cell
        obtain ⟨nk, hnk⟩ : ∃ nk, nk = keys.length := ⟨_, rfl⟩
        rw [← hnk] at ek ⊢
        have hbw := hS.ep.bel
        replace hnk := Lib.hid hnk
        clear hS hI hkl
        go_wp2_with fail
        go_ret
        exact ⟨rfl, hbw⟩
      · have d1 : decide ((i : Int) < (en : Int)) = false := by simp; omega
        obtain ⟨ka, kc, rfl, -, -, -⟩ := hS.ks.slice
        have hkl := hI.out.1.length
        obtain ⟨xb, xo, kao, kc2, rfl, hxb, ek, -⟩ := StA.kept hS.sv.own.rd.2 (i := 1) (by simp)
        rw [show keptAt [[], K, []] 1 = K from rfl, hkl] at ek
        have v1 := hS.sv.cell
        obtain ⟨nk, hnk⟩ : ∃ nk, nk = keys.length := ⟨_, rfl⟩
        rw [← hnk] at ek ⊢
        have hbw := hS.ep.bel
        replace hnk := Lib.hid hnk
        clear hS hI hkl
        go_wp2_with fail
        go_ret
        exact ⟨rfl, hbw⟩
end Go.Proofs.Ytbianedgogdeeaa
