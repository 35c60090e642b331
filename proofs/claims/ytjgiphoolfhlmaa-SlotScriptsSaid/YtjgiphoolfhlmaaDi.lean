/- Disk: slices.DeleteFunc of the changes; Sync. -/
import Derived.Test.YtjgiphoolfhlmaaDh
namespace Go.Proofs.Ytjgiphoolfhlmaa
open Go.RowKit Go.Maps
attribute [local go_sem] Oper.semAt_some
set_option linter.unusedVariables false
set_option linter.unusedSimpArgs false

theorem leftH_take {l : List CH} {s : ByteArray} {j : Nat} (hj : j < l.length) : leftH (l.take (j + 1)) s = leftH (l.take j) s ++ (if l[j].name = s then [] else [l[j]]) := by
  rw [List.take_succ_eq_append_getElem hj]
  unfold leftH
  rw [List.filter_append]
  congr 1
  by_cases h : l[j].name = s <;> simp [h]
theorem zeroCh (w : World) : (zeroValue 73).run Try.prog w = .ok (.agg #[.int .i64 0, .string ⟨#[]⟩, .int .i64 0, .slice none 0 0]) w := Try.zeroValue73 w

theorem ownStoreC {w : World} {base g n cap : Nat} {T : TypeId} {R : List CH} (h : OwnL encC w base T 4 (.slice (some ⟨g, 0, none⟩) n cap) R) {i : Nat} (hi : i < R.length) (c : CH) :
    OwnL encC ((((w.setCell ⟨g, i * 4, none⟩ (.int .i64 c.kind)).setCell ⟨g, i * 4 + 1, none⟩ (.string c.name)).setCell ⟨g, i * 4 + 2, none⟩ (.int .i64 c.pos)).setCell ⟨g, i * 4 + 3, none⟩ (.slice c.d.ao c.d.bs.length c.d.cap)) base T 4 (.slice (some ⟨g, 0, none⟩) n cap) (R.set i c) := by
  have s0 := ownSet h encC_len hi (j := 0) (by omega) (x' := { R[i] with kind := c.kind }) (c := .int .i64 c.kind) rfl
  have s1 := ownSet s0 encC_len (i := i) (by rw [List.length_set]; exact hi) (j := 1) (by omega) (x' := { R[i] with kind := c.kind, name := c.name }) (c := .string c.name) (by rw [List.getElem_set_self]; rfl)
  have s2 := ownSet s1 encC_len (i := i) (by rw [List.length_set, List.length_set]; exact hi) (j := 2) (by omega) (x' := { R[i] with kind := c.kind, name := c.name, pos := c.pos }) (c := .int .i64 c.pos) (by rw [List.getElem_set_self]; rfl)
  have s3 := ownSet s2 encC_len (i := i) (by rw [List.length_set, List.length_set, List.length_set]; exact hi) (j := 3) (by omega) (x' := c) (c := .slice c.d.ao c.d.bs.length c.d.cap) (by rw [List.getElem_set_self]; rfl)
  simp only [List.set_set, Nat.add_zero] at s3
  exact s3

set_option maxRecDepth 100000 in
set_option maxHeartbeats 4000000 in
theorem delete_any (s : ByteArray) (nb base : Nat) (v : Value) (l : List CH) (w : World) (hc : w.cell? ⟨nb, 0, none⟩ = some (.string s)) (h : OwnL encC w base 73 4 v l) (hl : l.length ≤ 1000000) (hnb : ∀ g, v.ownBlock = some g → nb ≠ g) :
    Calls Try.prog 44 #[v, .func (.func 42) #[] #[.pointer (some ⟨nb, 0, none⟩)]] w fun e w' =>
      ∃ v', e = .returned v' ∧ OwnL encC w' base 73 4 v' (leftH l s) ∧ v'.ownBlock = v.ownBlock ∧ Chg (fun k => v.ownBlock = some k) w w' := by
  have hi := index_any s nb base v l w hc h hl
  rcases h.form with ⟨hv, hl0⟩ | ⟨g, cap, cells, hv, hbk, _, _, _, _, hgl, _⟩
  · subst hl0
    subst hv
    have hgo : ∀ w', Below w.heap.size w w' → ∃ v' : Value, Ending.returned (.slice none 0 0) = Ending.returned v' ∧ OwnL encC w' base 73 4 v' (leftH [] s) ∧ v'.ownBlock = (Value.slice none 0 0).ownBlock ∧ Chg (fun k => (Value.slice none 0 0).ownBlock = some k) w w' := fun w' hb => ⟨_, rfl, OwnL.nil _ _ _ _ _, rfl, (Chg.of_below hb).mono (fun k h1 h2 => by omega)⟩
    clear h hnb
    go_enter Try.func44, Try.ntmps44
    go_wp2_with fail
    refine hi.mono ?_
    rintro e w1 ⟨⟨rfl, hq⟩ | ⟨i, rfl, hil, _⟩, hb⟩
    · dsimp only
      go_wp2_with fail
      go_ret
      exact hgo _ hb
    · simp at hil
  · subst hv
    have hne : nb ≠ g := hnb g rfl
    obtain ⟨n, hn⟩ : ∃ n, n = l.length := ⟨_, rfl⟩
    rw [← hn] at hi h hl
    have hgo : ∀ w', Below w.heap.size w w' → leftH l s = l → ∃ v' : Value, Ending.returned (.slice (some ⟨g, 0, none⟩) n cap) = Ending.returned v' ∧ OwnL encC w' base 73 4 v' (leftH l s) ∧ v'.ownBlock = (Value.slice (some ⟨g, 0, none⟩) n cap).ownBlock ∧ Chg (fun k => (Value.slice (some ⟨g, 0, none⟩) n cap).ownBlock = some k) w w' := fun w' hb hq => ⟨_, rfl, by rw [hq]; exact h.below hb (Nat.le_refl _), rfl, (Chg.of_below hb).mono (fun k h1 h2 => by omega)⟩
    rw [← hn]
    have hnbl := World.lt_of_cell hc
    dsimp only at hnbl
    replace hn := Lib.hid hn
    clear hnb hbk
    go_enter Try.func44, Try.ntmps44
    go_wp2_with fail
    refine hi.mono ?_
    rintro e w1 ⟨⟨rfl, hq⟩ | ⟨i0, rfl, hil, ⟨c0, hci, hcn⟩, hlf⟩, hb⟩
    · dsimp only
      replace hq := Lib.hid hq
      go_wp2_with fail
      go_ret
      exact hgo _ hb hq.out
    · have h1 := h.below hb (Nat.le_refl _)
      have hcap : n ≤ cap := by
        obtain ⟨a2, c2, e2, h2, _⟩ := h.slice
        rw [← hn.out] at e2 h2
        simp only [Value.slice.injEq, true_and] at e2
        rw [e2.2]; exact h2
      have hil2 : i0 < l.length := by rw [← hn.out]; exact hil
      have hst : leftH (l.take (i0 + 1)) s = l.take i0 := by
        rw [leftH_take hil2, hlf, if_pos, List.append_nil]
        rw [List.getElem?_eq_getElem hil2] at hci
        rw [Option.some.inj hci]; exact hcn
      replace hst := Lib.hid hst
      clear hi hlf hci hcn hgo
      dsimp only
      go_wp2_with fail
      go_loopw [5, 6] (fun x5 x6 wr => ∃ (i j : Nat) (R : List CH), x5 = .int .i64 i ∧ x6 = .int .i64 j ∧ i < j ∧ j ≤ n ∧ R.length = n ∧ R.take i = leftH (l.take j) s ∧ (leftH (l.take j) s).length = i ∧ R.drop j = l.drop j ∧ OwnL encC wr base 73 4 (.slice (some ⟨g, 0, none⟩) n cap) R ∧ Chg (fun k => k = g) w wr) (fun _ x6 _ => n - (intOf x6).toNat)
      case atStart => exact ⟨i0, i0 + 1, l, rfl, by go_num, by omega, by omega, hn.out.symm, hst.out.symm, by rw [hst.out, List.length_take]; omega, rfl, h1, (Chg.of_below hb).mono (fun k h1 h2 => by omega)⟩
      case round =>
        obtain ⟨i, j, R, rfl, rfl, hij, hjn, hRl, hRt, hRi, hRd, hown, hch⟩ := hrel
        by_cases hlt : j < n
        · have hjl : j < l.length := by rw [← hn.out]; exact hlt
          obtain ⟨c, hce⟩ : ∃ c, l[j] = c := ⟨_, rfl⟩
          have hRj : R[j]'(by omega) = c := by
            rw [← hce]
            have h5 : (R.drop j)[0]? = (l.drop j)[0]? := by rw [hRd]
            rw [List.getElem?_drop, List.getElem?_drop, Nat.add_zero, List.getElem?_eq_getElem (by omega), List.getElem?_eq_getElem hjl] at h5
            exact Option.some.inj h5
          have hcell : ∀ k, k < 4 → wr.cell? ⟨g, j * 4 + k, none⟩ = (encC c)[k]? := fun k hk => by
            rw [(ownCell hown encC_len (i := j) (j := k) (by omega) hk).1, hRj]
          have e0 : wr.cell? ⟨g, j * 4, none⟩ = some (.int .i64 c.kind) := hcell 0 (by omega)
          have e1 : wr.cell? ⟨g, j * 4 + 1, none⟩ = some (.string c.name) := hcell 1 (by omega)
          have e2 : wr.cell? ⟨g, j * 4 + 2, none⟩ = some (.int .i64 c.pos) := hcell 2 (by omega)
          have e3 : wr.cell? ⟨g, j * 4 + 3, none⟩ = some c.d.v := hcell 3 (by omega)
          have htk := leftH_take (s := s) hjl
          rw [hce] at htk
          have hcw : wr.cell? ⟨nb, 0, none⟩ = some (.string s) := (hch.cell (p := ⟨nb, 0, none⟩) hnbl hne).trans hc
          replace hce := Lib.hid hce
          replace htk := Lib.hid htk
          replace hRt := Lib.hid hRt
          replace hRi := Lib.hid hRi
          replace hRd := Lib.hid hRd
          replace hRl := Lib.hid hRl
          clear hcell hRj
          unfold FV.v at e3
          go_wp2_with fail
          obtain ⟨wa, hwa⟩ : ∃ wa, wa = wr.alloc (.cells #[.int .i64 c.kind, .string c.name, .int .i64 c.pos, .slice c.d.ao c.d.bs.length c.d.cap] 73) := ⟨_, rfl⟩
          rw [← hwa]
          have hba : Below wr.heap.size wr wa := by rw [hwa]; exact belowAlloc _ _
          have hbx : Blk wa wr.heap.size #[.int .i64 c.kind, .string c.name, .int .i64 c.pos, .slice c.d.ao c.d.bs.length c.d.cap] 73 := by rw [hwa]; exact Blk.new _ _ _
          have hgr : g < wr.heap.size := World.lt_of_cell e0
          have hnr : nb < wr.heap.size := World.lt_of_cell hcw
          clear hwa e0 e1 e2 e3
          refine (named_any c s nb wa ((hba.cell (p := ⟨nb, 0, none⟩) hnr).trans hcw)).mono ?_
          rintro e w2 ⟨rfl, hb2⟩
          have hb2' : Below wr.heap.size wr w2 := hba.trans (hb2.mono hba.size)
          have hbx2 := hbx.below hb2 hbx.lt
          have hown2 := hown.below hb2' (Nat.le_refl _)
          have hch2 : Chg (fun k => k = g) w w2 := hch.then_new (Chg.of_below hb2') (fun k h1 h2 => by have := hch.size; omega)
          clear hba hbx hb2 hown hch hb2' hcw
          dsimp only
          by_cases hq : c.name = s
          · rw [decide_eq_true hq]
            have htk2 : leftH (l.take (j + 1)) s = leftH (l.take j) s := by rw [htk.out, if_pos hq, List.append_nil]
            replace htk2 := Lib.hid htk2
            clear hq htk
            go_wp2_with fail
            go_roundw
            case rel => exact ⟨i, j + 1, R, rfl, by go_num, by omega, by omega, hRl.out, by rw [htk2.out]; exact hRt.out, by rw [htk2.out]; exact hRi.out, by
              have h5 := congrArg (List.drop 1) hRd.out
              rw [List.drop_drop, List.drop_drop] at h5
              exact h5, hown2, hch2⟩
            case measure => simp [intOf]; omega
          · rw [decide_eq_false hq]
            have htk2 : leftH (l.take (j + 1)) s = leftH (l.take j) s ++ [c] := by rw [htk.out, if_neg hq]
            have hiR : i < R.length := by rw [hRl.out]; omega
            have b0 := hbx2.cellAt (i := 0) (v := .int .i64 c.kind) rfl
            have b1 := hbx2.cellAt (i := 1) (v := .string c.name) rfl
            have b2 := hbx2.cellAt (i := 2) (v := .int .i64 c.pos) rfl
            have b3 := hbx2.cellAt (i := 3) (v := .slice c.d.ao c.d.bs.length c.d.cap) rfl
            obtain ⟨d, hd⟩ : ∃ d, R[i] = d := ⟨_, rfl⟩
            have hcell : ∀ k, k < 4 → w2.cell? ⟨g, i * 4 + k, none⟩ = (encC d)[k]? := fun k hk => by
              rw [(ownCell hown2 encC_len (i := i) (j := k) hiR hk).1, hd]
            have e0 : w2.cell? ⟨g, i * 4, none⟩ = some (.int .i64 d.kind) := hcell 0 (by omega)
            have e1 : w2.cell? ⟨g, i * 4 + 1, none⟩ = some (.string d.name) := hcell 1 (by omega)
            have e2 : w2.cell? ⟨g, i * 4 + 2, none⟩ = some (.int .i64 d.pos) := hcell 2 (by omega)
            have e3 : w2.cell? ⟨g, i * 4 + 3, none⟩ = some d.d.v := hcell 3 (by omega)
            unfold FV.v at e3
            have f0 : w2.frozen? ⟨g, i * 4, none⟩ = false := (ownCell hown2 encC_len (i := i) (j := 0) hiR (by omega)).2 _
            have f1 : w2.frozen? ⟨g, i * 4 + 1, none⟩ = false := (ownCell hown2 encC_len (i := i) (j := 0) hiR (by omega)).2 _
            have f2 : w2.frozen? ⟨g, i * 4 + 2, none⟩ = false := (ownCell hown2 encC_len (i := i) (j := 0) hiR (by omega)).2 _
            have f3 : w2.frozen? ⟨g, i * 4 + 3, none⟩ = false := (ownCell hown2 encC_len (i := i) (j := 0) hiR (by omega)).2 _
            have hin : i < n := by omega
            replace htk2 := Lib.hid htk2
            replace hd := Lib.hid hd
            clear hcell htk hq
            go_wp2_with fail
            have hs3 := ownStoreC hown2 hiR c
            have hch3 : Chg (fun k => k = g) w ((((w2.setCell ⟨g, i * 4, none⟩ (.int .i64 c.kind)).setCell ⟨g, i * 4 + 1, none⟩ (.string c.name)).setCell ⟨g, i * 4 + 2, none⟩ (.int .i64 c.pos)).setCell ⟨g, i * 4 + 3, none⟩ (.slice c.d.ao c.d.bs.length c.d.cap)) := (((hch2.setCell _ _ (fun _ => rfl)).setCell _ _ (fun _ => rfl)).setCell _ _ (fun _ => rfl)).setCell _ _ (fun _ => rfl)
            go_roundw
            case rel => exact ⟨i + 1, j + 1, R.set i c, by go_num, by go_num, by omega, by omega, by rw [List.length_set]; exact hRl.out, by
              rw [htk2.out, ← hRt.out, List.take_succ_eq_append_getElem (by rw [List.length_set]; exact hiR), List.getElem_set_self, List.take_set_of_le (Nat.le_refl _)], by rw [htk2.out, List.length_append, hRi.out]; rfl, by
              have h5 := congrArg (List.drop 1) hRd.out
              rw [List.drop_drop, List.drop_drop] at h5
              rw [List.drop_set_of_lt (by omega)]
              exact h5, hs3, hch3⟩
            case measure => simp [intOf]; omega
        · obtain rfl : j = n := by omega
          have hfull : l.take j = l := List.take_of_length_le (by rw [← hn.out]; exact Nat.le_refl _)
          rw [hfull] at hRt hRi
          obtain ⟨_, _, cells2, hv2, hbk2, h2, h3, h4, h5, h6, h7⟩ := hown.form.resolve_left (by rintro ⟨h, _⟩; cases h)
          simp only [Value.slice.injEq, Option.some.injEq, Addr.mk.injEq] at hv2
          obtain ⟨⟨rfl, _⟩, hlR, rfl⟩ := hv2
          obtain ⟨w3, cells3, hclr, hb3, hsz3, htk3, hc3⟩ := run_clear_row (P := Try.prog) (t := 53) (e := 73) (o := i * 4) (n := j - i) (cap := cap - i) Try.underlying53 (zeroCh wr) (by decide) (by decide) hbk2 (by show i * 4 + (j - i) * 4 ≤ _; rw [h4, ← Nat.add_mul]; exact Nat.mul_le_mul_right _ (by omega))
          have hfin : OwnL encC w3 base 73 4 (.slice (some ⟨g, 0, none⟩) i cap) (leftH l s) := by
            have h8 : cells3.toList.take ((leftH l s).length * 4) = (leftH l s).flatMap encC := by
              rw [hRi, htk3, ← hRt]
              have h9 := congrArg (List.take (i * 4)) h7
              rw [List.take_take, Nat.min_eq_left (by rw [hRl]; omega)] at h9
              rw [h9]
              have h10 : R.flatMap encC = (R.take i).flatMap encC ++ (R.drop i).flatMap encC := by rw [← List.flatMap_append, List.take_append_drop]
              rw [h10, List.take_append_of_le_length (by rw [flat_len encC_len, List.length_take, hRl]; omega), List.take_of_length_le (by rw [flat_len encC_len, List.length_take]; omega)]
            have := ownBlk (enc := encC) (xs := leftH l s) (cap := cap) hb3 h5 (by rw [hRi]; omega) h3 (by rw [hsz3, h4]) h8 (by rw [flat_len encC_len])
            rw [hRi] at this
            exact this
          have hch3 := hch.trans hc3
          have hcne : (cap - i != 0) = true := by simp; omega
          have hcne2 : (cap != 0) = true := by simp; omega
          have d9 : decide ((j : Int) < (j : Int)) = false := by simp
          have hic : i < cap := by omega
          replace hfin := Lib.hid hfin
          clear hRt hRi hRd hRl hfull h7 h4 hsz3 htk3 hown hb3 hbk2 hst h1 h hlR h2 h3
          go_wp2_with fail
          go_ret
          exact ⟨_, rfl, hfin.out, rfl, hch3.mono (fun k _ e => by rw [e]; rfl)⟩
end Go.Proofs.Ytjgiphoolfhlmaa
