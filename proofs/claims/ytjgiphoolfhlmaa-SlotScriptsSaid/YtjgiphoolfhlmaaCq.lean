/- Slot: Put. -/
import Derived.Test.YtjgiphoolfhlmaaCm
import Derived.Test.YtjgiphoolfhlmaaWq0
import Derived.WalkMore
namespace Go.Proofs.Ytjgiphoolfhlmaa
open Go.RowKit
attribute [local go_sem] Oper.semAt_some
set_option linter.unusedVariables false
set_option linter.unusedSimpArgs false

/-- A slot and its disk. -/
structure SL where
  M : DM
  v : ByteArray
  n : Nat
  inn : Int
  br : Bool
def toS (i : Int) : Nat := if i = 0 then 1 else 0
theorem toS_lt (i : Int) : toS i < 2 := by unfold toS; split <;> omega
/-- What Put answers and leaves behind. -/
def putM (nm : ByteArray) (s : SL) (val : ByteArray) : Nat × SL :=
  if s.br then (9, s) else if 60000 < val.size then (2, s) else if s.n = 9223372036854775807 then (14, s)
  else if (writeM s.M (nm ++ sufC (toS s.inn)) 0 (frameC (payC (s.n + 1) val))).1 ≠ 0 then ((writeM s.M (nm ++ sufC (toS s.inn)) 0 (frameC (payC (s.n + 1) val))).1, { s with M := (writeM s.M (nm ++ sufC (toS s.inn)) 0 (frameC (payC (s.n + 1) val))).2, br := true })
  else if (syncM (writeM s.M (nm ++ sufC (toS s.inn)) 0 (frameC (payC (s.n + 1) val))).2 (nm ++ sufC (toS s.inn))).1 ≠ 0 then ((syncM (writeM s.M (nm ++ sufC (toS s.inn)) 0 (frameC (payC (s.n + 1) val))).2 (nm ++ sufC (toS s.inn))).1, { s with M := (syncM (writeM s.M (nm ++ sufC (toS s.inn)) 0 (frameC (payC (s.n + 1) val))).2 (nm ++ sufC (toS s.inn))).2, br := true })
  else (0, ⟨(syncM (writeM s.M (nm ++ sufC (toS s.inn)) 0 (frameC (payC (s.n + 1) val))).2 (nm ++ sufC (toS s.inn))).2, val, s.n + 1, toS s.inn, false⟩)

structure Slt (w : World) (base db : Nat) (x : DX) (sb : Nat) (nm : ByteArray) (s : SL) : Prop where
  blk : SlotB w sb db nm s.v s.n s.inn s.br
  dsk : Dsk w base db x s.M
  nd : ¬ DS x db sb
  bs : base ≤ sb
namespace Slt
variable {w w' : World} {base db sb : Nat} {x : DX} {nm : ByteArray} {s : SL}
theorem below (h : Slt w base db x sb nm s) (hb : Below w.heap.size w w') : Slt w' base db x sb nm s := ⟨h.blk.below hb h.blk.lt, h.dsk.below hb, h.nd, h.bs⟩
/-- The slot's own cells turn. -/
theorem turn (h : Slt w base db x sb nm s) (hc : Chg (fun k => k = sb) w w') {s' : SL} (hM : s'.M = s.M) (hb : SlotB w' sb db nm s'.v s'.n s'.inn s'.br) : Slt w' base db x sb nm s' :=
  ⟨hb, by
    rw [hM]
    exact h.dsk.keep hc (fun k hk => by rw [hk]; exact h.nd) (fun k hk cs hB => by
      have h2 := h.blk
      unfold SlotB Blk at h2
      unfold Blk at hB
      rw [hk, h2] at hB
      simp at hB), h.nd, h.bs⟩
/-- Its disk turns. -/
theorem step {M' : DM} (h : Slt w base db x sb nm s) (hd : DStep w base db x M' w') : ∃ x', Slt w' base db x' sb nm { s with M := M' } ∧ Chg (DS x db) w w' ∧ (∀ k, DS x' db k → DS x db k ∨ w.heap.size ≤ k) := by
  obtain ⟨x', h1, h2, h3, _⟩ := hd
  refine ⟨x', ⟨h.blk.chg h2 h.nd, h1, fun hk => ?_, h.bs⟩, h2, h3⟩
  rcases h3 _ hk with h4 | h4
  · exact h.nd h4
  · have := h.blk.lt
    omega
end Slt
end Go.Proofs.Ytjgiphoolfhlmaa

/- Slot: Open and Get. -/
namespace Go.Proofs.Ytjgiphoolfhlmaa
open Go.RowKit
attribute [local go_sem] Oper.semAt_some
set_option linter.unusedVariables false
set_option linter.unusedSimpArgs false

def okS (c : UInt8) : Bool := decide (97 ≤ c.toNat) && decide (c.toNat ≤ 122)
/-- Is the slot's name right? -/
def nameS (s : ByteArray) : Bool := s.toList.all okS && decide (1 ≤ s.size) && decide (s.size ≤ 12)
theorem nameS_len {s : ByteArray} (h : nameS s = true) : s.size ≤ 12 := by
  unfold nameS at h
  simp at h
  exact h.2
/-- What Open finds. -/
def opS (M : DM) (H : Nat → Nat × ByteArray) : Nat → SL
  | 0 => ⟨M, ⟨#[]⟩, 0, -1, false⟩
  | j + 1 => if (H j).1 ≤ (opS M H j).n then opS M H j else ⟨M, (H j).2, (H j).1, j, false⟩
theorem opS_M (M : DM) (H : Nat → Nat × ByteArray) : ∀ j, (opS M H j).M = M ∧ (opS M H j).br = false
  | 0 => ⟨rfl, rfl⟩
  | j + 1 => by
    unfold opS
    split
    · exact opS_M M H j
    · exact ⟨rfl, rfl⟩

theorem sopen_nil (nm : ByteArray) (w : World) : Calls Try.prog 8 #[.pointer none, .string nm] w fun e w' => e = .returned (.tuple #[.pointer none, .int .i64 9]) ∧ Below w.heap.size w w' := by
  go_enter Try.func8, Try.ntmps8
  go_wp2_with fail
  go_step3
  go_wp2_with fail
  (try rw [Exit.noGoto_ret])
  go_ret2
  exact ⟨rfl, Below.refl _ _⟩
theorem sget_nil (w : World) : Calls Try.prog 9 #[.pointer none] w fun e w' => e = .returned (.tuple #[.string ⟨#[]⟩, .int .i64 0]) ∧ Below w.heap.size w w' := by
  go_enter Try.func9, Try.ntmps9
  go_wp2_with fail
  go_ret2
  exact ⟨rfl, Below.refl _ _⟩
theorem sput_nil (v : ByteArray) (w : World) : Calls Try.prog 10 #[.pointer none, .string v] w fun e w' => e = .returned (.int .i64 9) ∧ Below w.heap.size w w' := by
  go_enter Try.func10, Try.ntmps10
  go_wp2_with fail
  go_ret
  exact ⟨rfl, Below.refl _ _⟩
theorem sget_any {sb db : Nat} {nm v : ByteArray} {n : Nat} {inn : Int} {br : Bool} (w : World) (h : SlotB w sb db nm v n inn br) : Calls Try.prog 9 #[.pointer (some ⟨sb, 0, none⟩)] w fun e w' => e = .returned (.tuple #[.string v, .int .i64 n]) ∧ Below w.heap.size w w' := by
  have c2 : w.cell? ⟨sb, 2, none⟩ = some (.string v) := h.cellAt rfl
  have c3 : w.cell? ⟨sb, 3, none⟩ = some (.int .i64 n) := h.cellAt rfl
  clear h
  go_enter Try.func9, Try.ntmps9
  go_upto_region 3 with fail
  go_region_with (fail)
  all_goals (go_wp2_with fail; go_ret2)
  all_goals exact ⟨rfl, (Below.refl _ _).drew⟩

set_option maxRecDepth 100000 in
set_option maxHeartbeats 4000000 in
theorem sopen_any {base db N : Nat} {x : DX} {M : DM} (nm : ByteArray) (H : Nat → Nat × ByteArray) (w : World) (hs : nm.size ≤ maxLen) (hD : Dsk w base db x M) (hok : OkM N M) (hb : base ≤ w.heap.size) (hH : nameS nm = true → ∀ j, j < 2 → HeldIs (bytesOf M.now (nm ++ sufC j)) (H j).1 (H j).2) :
    Calls Try.prog 8 #[.pointer (some ⟨db, 0, none⟩), .string nm] w fun e w' => Below w.heap.size w w' ∧ (nameS nm = false → e = .returned (.tuple #[.pointer none, .int .i64 1])) ∧ (nameS nm = true → ∃ sb, e = .returned (.tuple #[.pointer (some ⟨sb, 0, none⟩), .int .i64 0]) ∧ Slt w' base db x sb nm (opS M H 2)) := by
  have hsz : nm.toList.length = nm.size := by rw [ByteArray.toList_eq]; rfl
  obtain ⟨res, hres⟩ : ∃ res, res = nameS nm := ⟨_, rfl⟩
  rw [← hres] at hH ⊢
  by_cases hlen : nm.size < 1 ∨ 12 < nm.size
  · have hr : res = false := by
      rw [hres]; unfold nameS
      simp
      omega
    subst hr
    clear hres hH hD
    rcases hlen with h1 | h1
    · have d1 : decide ((nm.size : Int) < 1) = true := by simp; omega
      go_enter Try.func8, Try.ntmps8
      go_wp2_with fail
      go_step3
      go_wp2_with fail
      (try rw [Exit.noGoto_ret])
      go_ret2
      exact ⟨Below.refl _ _, fun _ => rfl, fun h => by cases h⟩
    · have d1 : decide ((nm.size : Int) < 1) = false := by simp; omega
      have d2 : decide ((12 : Int) < (nm.size : Int)) = true := by simp; omega
      go_enter Try.func8, Try.ntmps8
      go_wp2_with fail
      go_step3
      go_wp2_with fail
      (try rw [Exit.noGoto_ret])
      go_ret2
      exact ⟨Below.refl _ _, fun _ => rfl, fun h => by cases h⟩
  · obtain ⟨cap2, w2, hcv, hb12, hby⟩ := str_bytesU nm w hs
    have d1 : decide ((nm.size : Int) < 1) = false := by simp; omega
    have d3 : decide ((12 : Int) < (nm.size : Int)) = false := by simp; omega
    have hrq : res = nm.toList.all okS := by
      rw [hres]; unfold nameS
      have h1 : decide (1 ≤ nm.size) = true := by simp; omega
      have h2 : decide (nm.size ≤ 12) = true := by simp; omega
      rw [h1, h2]; simp
    have hn12 : nm.size ≤ 12 := by omega
    replace hsz := Lib.hid hsz
    replace hrq := Lib.hid hrq
    replace hH := Lib.hid hH
    replace hD := Lib.hid hD
    clear hres hlen
    go_enter Try.func8, Try.ntmps8
    go_wp2_with fail
    go_step3
    go_wp2_with fail
    go_loopw [25] (fun x16 wr => ∃ i : Nat, i ≤ nm.size ∧ x16 = .int .i64 i ∧ wr = w2 ∧ ∀ j (h : j < nm.toList.length), j < i → okS nm.toList[j] = true) (fun x16 _ => nm.size - (intOf x16).toNat)
    case atStart => exact ⟨0, Nat.zero_le _, rfl, rfl, fun _ _ h => absurd h (Nat.not_lt_zero _)⟩
    case round =>
      obtain ⟨i, hi, rfl, rfl, hall⟩ := hrel
      replace hall := Lib.hid hall
      by_cases hlt : i < nm.size
      · have hil : i < nm.toList.length := by rw [hsz.out]; exact hlt
        obtain ⟨c, hc⟩ : ∃ c, nm.toList[i] = c := ⟨_, rfl⟩
        have cc : wr.cell? ⟨w.heap.size, i, none⟩ = some (.int .u8 c.toNat) := by
          obtain ⟨cs, _, h6, h7⟩ := hby.get i hil
          have h8 := h6 0 (by omega)
          rw [Nat.mul_one, Nat.add_zero, h7, hc, Nat.zero_add] at h8
          exact h8
        have hbad : okS c = false → res = false := fun h => by
          rw [hrq.out]
          cases hq : nm.toList.all okS with
          | false => rfl
          | true => have := List.all_eq_true.1 hq _ (List.getElem_mem hil); rw [hc, h] at this; cases this
        have hnext : okS c = true → ∀ j (h : j < nm.toList.length), j < i + 1 → okS nm.toList[j] = true := fun h j hj hji => by
          rcases Nat.lt_or_ge j i with h2 | h2
          · exact hall.out j hj h2
          · obtain rfl : j = i := by omega
            rw [hc]; exact h
        replace hc := Lib.hid hc
        replace hbad := Lib.hid hbad
        replace hnext := Lib.hid hnext
        have hok : okS c = (decide (97 ≤ c.toNat) && decide (c.toNat ≤ 122)) := rfl
        replace hok := Lib.hid hok
        generalize c.toNat = m at cc hok
        go_wp2_with fail
        all_goals (first
          | ((try rw [Exit.noGoto_ret])
             go_ret2
             have hrf : res = false := hbad.out (by rw [hok.out]; simp at *; omega)
             subst hrf
             exact ⟨hb12, fun _ => rfl, fun h => by cases h⟩)
          | (refine ⟨⟨i + 1, by omega, by simp, trivial, hnext.out ?_⟩, by simp [intOf]; omega⟩
             rw [hok.out]
             simp at *
             omega))
      · have hres : res = true := by
          rw [hrq.out]
          refine List.all_eq_true.2 fun c hc => ?_
          obtain ⟨j, hj, rfl⟩ := List.getElem_of_mem hc
          exact hall.out j hj (by rw [hsz.out] at hj; omega)
        have d9 : decide ((i : Int) < (nm.size : Int)) = false := by simp; omega
        subst hres
        have hbr := hb12.size
        have hDr := hD.out.below hb12
        have hlr : ∀ k, DS x db k → k < w.heap.size := hD.out.lt
        have hH2 := hH.out rfl
        have hst : Hid (Slt (wr.alloc (.cells #[.pointer (some ⟨db, 0, none⟩), .string nm, .string ⟨#[]⟩, .int .i64 0, .int .i64 (-1), .bool false] 57)) base db x wr.heap.size nm (opS M H 0) ∧ Below w.heap.size w (wr.alloc (.cells #[.pointer (some ⟨db, 0, none⟩), .string nm, .string ⟨#[]⟩, .int .i64 0, .int .i64 (-1), .bool false] 57))) := by
          refine Lib.hid ⟨⟨Blk.new _ _ _, hDr.below (belowAlloc _ _), fun hk => by have := hlr _ hk; omega, by omega⟩, hb12.alloc hbr _⟩
        replace hH2 := Lib.hid hH2
        clear hall hby hcv hsz hrq hH hD hDr hlr
        go_wp2_with fail
        go_step3
        go_wp2_with fail
        generalize hsb : wr.heap.size = sb at hst hbr ⊢
        clear hsb hb12
        go_loopw [40] (fun x40 wq => ∃ j : Nat, j ≤ 2 ∧ x40 = .int .i64 j ∧ Hid (Slt wq base db x sb nm (opS M H j)) ∧ Below w.heap.size w wq) (fun x40 _ => 2 - (intOf x40).toNat)
        case atStart => exact ⟨0, by omega, rfl, Lib.hid hst.out.1, hst.out.2⟩
        case round =>
          obtain ⟨j, hj, rfl, hS, hbq⟩ := hrel
          by_cases hlt : j < 2
          · have hMb := opS_M M H j
            have hnx : opS M H (j + 1) = if (H j).1 ≤ (opS M H j).n then opS M H j else ⟨M, (H j).2, (H j).1, j, false⟩ := rfl
            have hHj := hH2.out j hlt
            obtain ⟨o, ho⟩ : ∃ o, o = opS M H j := ⟨_, rfl⟩
            rw [← ho] at hS hMb hnx
            obtain ⟨oM, ov, on, oi, ob⟩ := o
            obtain ⟨rfl, rfl⟩ := hMb
            dsimp only at hnx
            obtain ⟨⟨n, v⟩, hHv⟩ : ∃ y, H j = y := ⟨_, rfl⟩
            rw [hHv] at hnx hHj
            dsimp only at hnx hHj
            have hrd := sread_any nm ov on oi false n v wr hlt hS.out.blk hn12 hS.out.dsk hok hHj
            have hSlt := hS.out.blk.lt
            clear ho hHj hHv
            go_wp2_with fail
            refine hrd.mono ?_
            rintro e w4 ⟨rfl, hb4⟩
            have hS4 := hS.out.below hb4
            have hb4' := hbq.trans (hb4.mono hbq.size)
            have c2 : w4.cell? ⟨sb, 2, none⟩ = some (.string ov) := hS4.blk.cellAt rfl
            have c3 : w4.cell? ⟨sb, 3, none⟩ = some (.int .i64 on) := hS4.blk.cellAt rfl
            have c4 : w4.cell? ⟨sb, 4, none⟩ = some (.int .i64 oi) := hS4.blk.cellAt rfl
            have f2 := hS4.blk.frozen 2
            have f3 := hS4.blk.frozen 3
            have f4 := hS4.blk.frozen 4
            clear hrd
            dsimp only
            by_cases hle : n ≤ on
            · rw [if_pos hle] at hnx
              have d5 : decide ((n : Int) ≤ (on : Int)) = true := by simp; omega
              have hfin : Hid (Slt w4 base db x sb nm (opS oM H (j + 1)) ∧ Below w.heap.size w w4) := Lib.hid (by rw [hnx]; exact ⟨hS4, hb4'⟩)
              clear hnx hS4 hS
              go_wp2_with fail
              go_roundw
              case rel => exact ⟨j + 1, by omega, by simp, Lib.hid hfin.out.1, hfin.out.2⟩
              case measure => simp [intOf]; omega
            · rw [if_neg hle] at hnx
              have d5 : decide ((n : Int) ≤ (on : Int)) = false := by simp; omega
              have hfin : Hid (Slt (((w4.setCell ⟨sb, 2, none⟩ (.string v)).setCell ⟨sb, 3, none⟩ (.int .i64 n)).setCell ⟨sb, 4, none⟩ (.int .i64 j)) base db x sb nm (opS oM H (j + 1)) ∧ Below w.heap.size w (((w4.setCell ⟨sb, 2, none⟩ (.string v)).setCell ⟨sb, 3, none⟩ (.int .i64 n)).setCell ⟨sb, 4, none⟩ (.int .i64 j))) := by
                have hc1 : Chg (fun k => k = sb) w4 (w4.setCell ⟨sb, 2, none⟩ (.string v)) := (Chg.refl _ _).setCell _ _ (fun _ => rfl)
                have hc2 : Chg (fun k => k = sb) w4 ((w4.setCell ⟨sb, 2, none⟩ (.string v)).setCell ⟨sb, 3, none⟩ (.int .i64 n)) := hc1.setCell _ _ (fun _ => rfl)
                have hc : Chg (fun k => k = sb) w4 (((w4.setCell ⟨sb, 2, none⟩ (.string v)).setCell ⟨sb, 3, none⟩ (.int .i64 n)).setCell ⟨sb, 4, none⟩ (.int .i64 j)) := hc2.setCell _ _ (fun _ => rfl)
                refine Lib.hid ⟨?_, hb4'.trans (hc.below hb4'.size (fun k hk1 hk2 => by omega))⟩
                rw [hnx]
                refine hS4.turn hc rfl ?_
                unfold SlotB
                have h5 := ((hS4.blk.set 2 (.string v)).set 3 (.int .i64 n)).set 4 (.int .i64 j)
                simp only at h5
                simpa using h5
              clear hnx hS4 hS
              go_wp2_with fail
              go_roundw
              case rel => exact ⟨j + 1, by omega, by simp, Lib.hid hfin.out.1, hfin.out.2⟩
              case measure => simp [intOf]; omega
          · have d9 : decide ((j : Int) < 2) = false := by simp; omega
            obtain rfl : j = 2 := by omega
            go_wp2_with fail
            (try rw [Exit.noGoto_ret])
            go_ret2
            exact ⟨hbq, fun h => (by cases h), fun _ => ⟨_, rfl, hS.out⟩⟩
end Go.Proofs.Ytjgiphoolfhlmaa

/- Slot: plain law of its files. -/
namespace Go.Proofs.Ytjgiphoolfhlmaa
open Go.RowKit
set_option linter.unusedVariables false
set_option linter.unusedSimpArgs false

/-- A disk on which all is safe. -/
def stdM (r : Int) (L : Files) : DM := ⟨r, false, L, L, []⟩
theorem sumL_with_le (l : Files) (s : ByteArray) (d : List UInt8) : sumL (withL l s d) ≤ d.length + sumL l := by
  rw [sumL_perm (withL_perm l s d)]
  have h : sumL (withoutL l s) ≤ sumL l := by
    unfold sumL withoutL
    induction l with
    | nil => simp
    | cons p r ih =>
      rw [List.filter_cons]
      split
      · rw [List.map_cons, List.map_cons, List.sum_cons, List.sum_cons]; omega
      · rw [List.map_cons, List.sum_cons]; omega
  show d.length + sumL (withoutL l s) ≤ _
  omega
theorem list_app (a b : ByteArray) : (a ++ b).toList = a.toList ++ b.toList := by
  rw [ByteArray.toList_eq, ByteArray.toList_eq, ByteArray.toList_eq]
  simp
theorem okS_C {c : UInt8} (h : okS c = true) : okC c = true := by
  unfold okS at h
  unfold okC
  rw [h]
  rfl
theorem right_suf {nm : ByteArray} (h : nameS nm = true) (i : Nat) : rightN (nm ++ sufC i) = true := by
  have hl := nameS_len h
  have hs := suf_len i hl
  unfold nameS at h
  simp only [Bool.and_eq_true, decide_eq_true_eq] at h
  have h2 : (sufC i).toList.all okC = true := by
    unfold sufC
    split <;> (rw [ByteArray.toList_eq]; decide)
  unfold rightN
  simp only [Bool.and_eq_true, decide_eq_true_eq]
  refine ⟨⟨?_, ?_⟩, by omega⟩
  · rw [list_app, List.all_append, h2, Bool.and_true]
    exact List.all_eq_true.2 (fun c hc => okS_C (List.all_eq_true.1 h.1.1 c hc))
  · rw [ByteArray.size_append]
    omega
theorem suf_ne (nm : ByteArray) : nm ++ sufC 0 ≠ nm ++ sufC 1 := fun h => by
  have h2 := congrArg ByteArray.toList h
  rw [list_app, list_app] at h2
  have h3 := List.append_cancel_left h2
  unfold sufC at h3
  rw [ByteArray.toList_eq, ByteArray.toList_eq] at h3
  exact absurd h3 (by decide)

section
variable {nm : ByteArray} {s : SL} {r : Int} {L : Files}
theorem put_br (h : s.br = true) (val : ByteArray) : putM nm s val = (9, s) := by unfold putM; rw [if_pos h]
theorem put_long (h : s.br = false) {val : ByteArray} (hv : 60000 < val.size) : putM nm s val = (2, s) := by unfold putM; rw [if_neg (by simp [h]), if_pos hv]
/-- The files after a Put. -/
def newL (nm : ByteArray) (L : Files) (s : SL) (val : ByteArray) : Files := withL L (nm ++ sufC (toS s.inn)) (overB (bytesOf L (nm ++ sufC (toS s.inn))) 0 (frameC (payC (s.n + 1) val)))
theorem put_fail (h : s.br = false) (hf : s.M.fails = true) {val : ByteArray} (hv : val.size ≤ 60000) (hn : s.n ≠ 9223372036854775807) : putM nm s val = (16, { s with br := true }) := by
  have hw : writeM s.M (nm ++ sufC (toS s.inn)) 0 (frameC (payC (s.n + 1) val)) = (16, s.M) := by
    have hr : readyM s.M (nm ++ sufC (toS s.inn)) 0 = 16 := by unfold readyM; rw [if_pos hf]
    unfold writeM
    rw [hr, if_pos (by decide)]
  unfold putM
  rw [if_neg (by simp [h]), if_neg (by omega), if_neg hn, hw, if_pos (by simp)]
theorem put_std (hnm : nameS nm = true) (hM : s.M = stdM r L) (h : s.br = false) {val : ByteArray} (hv : val.size ≤ 60000) (hn : s.n ≠ 9223372036854775807) :
    (putM nm s val = (6, { s with br := true }) ∧ r < (sumL L : Int) + (frameC (payC (s.n + 1) val)).length) ∨ putM nm s val = (0, ⟨stdM r (newL nm L s val), val, s.n + 1, toS s.inn, false⟩) := by
  unfold putM
  rw [if_neg (by simp [h]), if_neg (by omega), if_neg hn, hM]
  unfold newL
  generalize frameC (payC (s.n + 1) val) = F
  have hr0 := right_suf hnm (toS s.inn)
  generalize nm ++ sufC (toS s.inn) = fn at hr0 ⊢
  have hr : readyM (stdM r L) fn 0 = 0 := by unfold readyM stdM; simp [hr0]
  by_cases hfit : ((bytesOf L fn).length : Int) < 0 + F.length ∧ r < (sumL L : Int) + 0 + F.length - (bytesOf L fn).length
  · left
    have hw : writeM (stdM r L) fn 0 F = (6, stdM r L) := by
      unfold writeM
      rw [hr, if_neg (by simp), if_neg (by omega)]
      exact if_pos hfit
    rw [hw, if_pos (by simp)]
    refine ⟨?_, by omega⟩
    rw [← hM]
  · right
    have hw : writeM (stdM r L) fn 0 F = (0, ⟨r, false, withL L fn (overB (bytesOf L fn) 0 F), L, [⟨0, fn, 0, F⟩]⟩) := by
      unfold writeM
      rw [hr, if_neg (by simp), if_neg (by omega)]
      exact if_neg hfit
    have hy : syncM ⟨r, false, withL L fn (overB (bytesOf L fn) 0 F), L, [⟨0, fn, 0, F⟩]⟩ fn = (0, stdM r (withL L fn (overB (bytesOf L fn) 0 F))) := by
      have hr2 : readyM ⟨r, false, withL L fn (overB (bytesOf L fn) 0 F), L, [⟨0, fn, 0, F⟩]⟩ fn 0 = 0 := by unfold readyM; simp [hr0]
      have hg : getL (withL L fn (overB (bytesOf L fn) 0 F)) fn = some (overB (bytesOf L fn) 0 F) := by rw [getL_withL, if_pos rfl]
      unfold syncM
      rw [hr2]
      simp [hg, leftC, stdM]
    rw [hw]
    simp only [ne_eq, not_true_eq_false, if_false]
    rw [hy]
    simp
end
theorem crash_std (r : Int) (L : Files) (picks : List Int) : crashM (stdM r L) picks = stdM r L := rfl

/-- What is so between the calls. -/
structure SInv (nm : ByteArray) (s : SL) (r : Int) (L : Files) (H : Nat → Nat × ByteArray) : Prop where
  M : s.M = stdM r L
  held : ∀ j, j < 2 → HeldIs (bytesOf L (nm ++ sufC j)) (H j).1 (H j).2
  opn : opS s.M H 2 = s
theorem overB_frame (b F : List UInt8) : overB b 0 F = F ++ b.drop F.length := by unfold overB; simp
def newH (H : Nat → Nat × ByteArray) (s : SL) (val : ByteArray) : Nat → Nat × ByteArray := fun j => if j = toS s.inn then (s.n + 1, val) else H j
theorem opS_two (M : DM) (H : Nat → Nat × ByteArray) : opS M H 2 = if (H 1).1 ≤ (if (H 0).1 ≤ 0 then (⟨M, ⟨#[]⟩, 0, -1, false⟩ : SL) else ⟨M, (H 0).2, (H 0).1, 0, false⟩).n then (if (H 0).1 ≤ 0 then (⟨M, ⟨#[]⟩, 0, -1, false⟩ : SL) else ⟨M, (H 0).2, (H 0).1, 0, false⟩) else ⟨M, (H 1).2, (H 1).1, 1, false⟩ := rfl
theorem SInv.put {nm : ByteArray} {s : SL} {r : Int} {L : Files} {H : Nat → Nat × ByteArray} (h : SInv nm s r L H) {val : ByteArray} (hv : val.size ≤ 60000) (hn : s.n < 9223372036854775807) : SInv nm ⟨stdM r (newL nm L s val), val, s.n + 1, toS s.inn, false⟩ r (newL nm L s val) (newH H s val) := by
  refine ⟨rfl, fun j hj => ?_, ?_⟩
  · unfold newH newL
    by_cases hjt : j = toS s.inn
    · rw [if_pos hjt, hjt]
      unfold bytesOf
      rw [getL_withL, if_pos rfl]
      refine .inr ⟨by show 1 ≤ s.n + 1; omega, by show s.n + 1 ≤ _; omega, hv, (getL L (nm ++ sufC (toS s.inn))).getD [] |>.drop (frameC (payC (s.n + 1) val)).length, ?_⟩
      show overB _ 0 _ = _
      rw [overB_frame]
    · rw [if_neg hjt]
      have hne : nm ++ sufC j ≠ nm ++ sufC (toS s.inn) := by
        have := toS_lt s.inn
        rcases (by omega : (j = 0 ∧ toS s.inn = 1) ∨ (j = 1 ∧ toS s.inn = 0)) with ⟨h1, h2⟩ | ⟨h1, h2⟩
        · rw [h1, h2]; exact suf_ne nm
        · rw [h1, h2]; exact (suf_ne nm).symm
      unfold bytesOf
      rw [getL_withL, if_neg hne]
      exact h.held j hj
  · have ho := h.opn
    rw [opS_two] at ho ⊢
    have hi : s.n = max (H 0).1 (H 1).1 ∧ (s.inn = 0 → (H 1).1 ≤ (H 0).1 ∧ s.inn = 0) := by
      rw [← ho]
      split <;> split <;> simp_all <;> omega
    unfold newH
    by_cases h0 : s.inn = 0
    · have ht : toS s.inn = 1 := by unfold toS; rw [if_pos h0]
      rw [ht]
      simp only [if_neg (show ¬ (0 : Nat) = 1 by decide), if_true]
      rw [if_neg]
      · rfl
      · split <;> simp <;> omega
    · have ht : toS s.inn = 0 := by unfold toS; rw [if_neg h0]
      rw [ht]
      simp only [if_neg (show ¬ (1 : Nat) = 0 by decide), if_true]
      rw [if_neg (show ¬ s.n + 1 ≤ 0 by omega), if_pos (show (H 1).1 ≤ s.n + 1 by omega)]
      rfl
end Go.Proofs.Ytjgiphoolfhlmaa
