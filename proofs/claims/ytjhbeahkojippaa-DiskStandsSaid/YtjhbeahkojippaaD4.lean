/- Disk: the document's disk: over. -/
import Derived.Test.YtjhbeahkojippaaD3
import Derived.IntWalk
namespace Go.Proofs.Ytjhbeahkojippaa
open Go.RowKit Go.Maps
attribute [local go_sem] Oper.semAt_some
set_option linter.unusedVariables false
set_option linter.unusedSimpArgs false

def lenV : Value → Nat
  | .slice _ n _ => n
  | _ => 0
/-- Bytes of which i of d lie from k on. -/
def rowO (b d : List UInt8) (k i : Nat) : List UInt8 := b.take k ++ d.take i ++ b.drop (k + i)
theorem rowO_len {b d : List UInt8} {k i : Nat} (h1 : k + d.length ≤ b.length) (h2 : i ≤ d.length) : (rowO b d k i).length = b.length := by
  unfold rowO
  simp
  omega
theorem rowO_set {b d : List UInt8} {k i : Nat} (h1 : k + d.length ≤ b.length) (h2 : i < d.length) : (rowO b d k i).set (k + i) d[i] = rowO b d k (i + 1) := by
  unfold rowO
  have hl : (b.take k ++ d.take i).length = k + i := by simp; omega
  rw [List.set_append_right _ _ (by rw [hl]; exact Nat.le_refl _), hl, Nat.sub_self, List.take_succ_eq_append_getElem h2]
  have hd : b.drop (k + i) = b[k + i] :: b.drop (k + (i + 1)) := by
    rw [List.drop_eq_getElem_cons (by omega)]
    rfl
  rw [hd, List.set_cons_zero]
  simp only [List.append_assoc, List.cons_append, List.nil_append]
theorem rowO_zero (b d : List UInt8) (k : Nat) : rowO b d k 0 = b := by unfold rowO; simp
theorem rowO_full {b d : List UInt8} {k z : Nat} (h1 : k ≤ b.length) (hz : z = k + d.length - b.length) : rowO (b ++ List.replicate z 0) d k d.length = overB b k d := by
  unfold rowO overB
  rw [List.take_append_of_le_length h1, List.take_length, List.drop_append]
  congr 1
  rw [show List.drop (k + d.length - b.length) (List.replicate z (0 : UInt8)) = [] from List.drop_of_length_le (by rw [List.length_replicate]; omega), List.append_nil]

set_option maxRecDepth 100000 in
set_option maxHeartbeats 4000000 in
theorem over_any (ba : Option Addr) (bc : Nat) (b : List UInt8) (k : Nat) (da : Option Addr) (dc : Nat) (d : List UInt8) (w : World) (hb : SlA w.heap.size 1 EU w ba bc b) (hd : SlA w.heap.size 1 EU w da dc d) (hk : k ≤ b.length) (h1 : b.length ≤ 1099511627776) (h2 : k + d.length ≤ 1099511627776) :
    Calls Try.prog 53 #[.slice ba b.length bc, .int .i64 k, .slice da d.length dc] w fun e w' => ∃ v, e = .returned v ∧ OwnL encU w' w.heap.size 5 1 v (overB b k d) ∧ Below w.heap.size w w' := by
  obtain ⟨ii, hi, hz0, hz1, hz2⟩ := partsU
  obtain ⟨bl, hbl⟩ : ∃ bl, bl = b.length := ⟨_, rfl⟩
  obtain ⟨dl, hdl⟩ : ∃ dl, dl = d.length := ⟨_, rfl⟩
  rw [← hbl] at hk h1 ⊢
  rw [← hdl] at h2 ⊢
  replace hbl := Lib.hid hbl
  replace hdl := Lib.hid hdl
  replace hd := Lib.hid hd
  go_enter Try.func53, Try.ntmps53
  go_wp2_with (at_builtin; refine Shut.out ?kq1)
  unfold Shut
  have hb2 : SlA w.heap.size 1 EU (w.alloc (.cells #[] 5)) ba bc b := hb.imp (belowAlloc w _) (Nat.le_refl _) (fun cs x _ h => h)
  refine wpList_app_sla (xs := []) (ys := b) (enc := encU) (base := w.heap.size) _ rfl _ _ 23 rfl Try.underlying23 hi hz0 hz1 hz2 rfl (by decide) rfl (ownEmpty w 1 5) (by show Value.slice ba bl bc = _; rw [hbl.out]) hb2 encU_len encU_one (by have := hbl.out; unfold maxLen; simp; omega) (by have := hbl.out; simp; omega) (by simp) (fun v3 w3 hown3 hgr3 => ?_)
  rw [List.nil_append] at hown3
  have hb23 : Below w.heap.size w w3 := (belowAlloc w (.cells #[] 5)).grown hgr3 (by simp) (fun g hg => by simp [Act.eval, Value.ownBlock] at hg; omega)
  clear hb2 hgr3 hb
  have hslot : ∃ a c, v3 = .slice a bl c := by
    obtain ⟨a, c, e, _⟩ := hown3.slice
    exact ⟨a, c, by rw [e, hbl.out]⟩
  obtain ⟨a3, c3, rfl⟩ := hslot
  go_wp2_with fail
  go_loopw [7] (fun x7 wr => ∃ z : Nat, z ≤ k + dl - bl ∧ OwnL encU wr w.heap.size 5 1 x7 (b ++ List.replicate z 0) ∧ Below w.heap.size w wr) (fun x7 _ => k + dl - lenV x7)
  case atStart => exact ⟨0, Nat.zero_le _, by simpa using hown3, hb23⟩
  case round =>
    clear hown3 hb23
    obtain ⟨z, hz, hO, hbr⟩ := hrel
    obtain ⟨m, hm⟩ : ∃ m, m = bl + z := ⟨_, rfl⟩
    have hml : (b ++ List.replicate z (0 : UInt8)).length = m := by rw [List.length_append, List.length_replicate, ← hbl.out, hm]
    obtain ⟨a5, c5, rfl, _, _, _⟩ := hO.slice
    rw [hml] at hO ⊢
    replace hml := Lib.hid hml
    have hm40 : m ≤ 1099511627776 := by omega
    by_cases hlt : m < k + dl
    · have d1 : decide ((m : Int) < (k : Int) + (dl : Int)) = true := by simp; omega
      have hz1 : z + 1 ≤ k + dl - bl := by omega
      have hmz : m + 1 = bl + (z + 1) := by omega
      have hrp : b ++ List.replicate z (0 : UInt8) ++ [0] = b ++ List.replicate (z + 1) 0 := by
        rw [List.append_assoc, ← List.replicate_succ']
      replace hm := Lib.hid hm
      replace hrp := Lib.hid hrp
      replace hmz := Lib.hid hmz
      replace hz1 := Lib.hid hz1
      go_wp2_with (at_builtin; refine Shut.out ?kq2)
      unfold Shut
      change wpList _ _ _ _ _ (World.alloc _ (.cells (encU 0).toArray 5))
      refine wpList_app1g rfl _ _ 23 rfl Try.underlying23 hi hz0 (by assumption) hz2 rfl (by decide) (enc := encU) 0 rfl hO (by first | rfl | (show Value.slice _ _ _ = _; rfl)) (encU_len _) (encU_one _) (by rw [hml.out]; omega) (by rw [hml.out]; unfold maxLen; omega) hbr.size (fun g4 cap4 w4 hO4 hgr4 => ?_)
      rw [hml.out] at hO4 hgr4 ⊢
      rw [hrp.out] at hO4
      have hb4 : Below w.heap.size w w4 := hbr.grown hgr4.grown hbr.size (fun k hk => (hO.lt k hk).1)
      clear hgr4
      go_wp2_with fail
      exact ⟨⟨z + 1, hz1.out, hO4, hb4⟩, by simp [lenV]; omega⟩
    · have d1 : decide ((m : Int) < (k : Int) + (dl : Int)) = false := by simp; omega
      have hzz : z = k + d.length - b.length := by rw [← hbl.out, ← hdl.out]; omega
      have hkd : k + d.length ≤ (b ++ List.replicate z (0 : UInt8)).length := by rw [hml.out, ← hdl.out]; omega
      have hfull := rowO_full (b := b) (d := d) (k := k) (by rw [← hbl.out]; exact hk) hzz
      have hkm : k + dl ≤ m := by omega
      replace hm := Lib.hid hm
      replace hzz := Lib.hid hzz
      replace hkd := Lib.hid hkd
      replace hfull := Lib.hid hfull
      obtain ⟨B', hB'⟩ : ∃ B', B' = b ++ List.replicate z (0 : UInt8) := ⟨_, rfl⟩
      rw [← hB'] at hO hml hkd hfull
      obtain ⟨wi, rfl⟩ : ∃ wi, wi = wr := ⟨wr, rfl⟩
      clear hB' hlt hz
      go_wp2_with fail
      go_loopw [8] (fun x8 wr => ∃ i : Nat, i ≤ dl ∧ x8 = .int .i64 i ∧ OwnL encU wr w.heap.size 5 1 (.slice a5 m c5) (rowO B' d k i) ∧ Below w.heap.size w wr) (fun x8 _ => dl - (intOf x8).toNat)
      case atStart => exact ⟨0, Nat.zero_le _, rfl, by rw [rowO_zero]; exact hO, hbr⟩
      case round =>
        clear hO hbr d1
        obtain ⟨i, hin, rfl, hO, hbr⟩ := hrel
        by_cases hlt : i < dl
        · have hil : i < d.length := by rw [← hdl.out]; exact hlt
          have hdw := hd.out
          obtain ⟨b2, o2, rfl, hb2, _⟩ := hdw.addr (by omega)
          obtain ⟨cs, _, h6, h7⟩ := hdw.get i hil
          have h8 := h6 0 (by omega)
          rw [h7] at h8
          have cx : wr.cell? ⟨b2, o2 + i, none⟩ = some (.int .u8 (d[i]).toNat) := by
            rw [hbr.cell (p := ⟨b2, o2 + i, none⟩) hb2]
            simpa [encU] using h8
          have hrl : (rowO B' d k i).length = m := by rw [rowO_len hkd.out (by omega)]; exact hml.out
          obtain ⟨g, rfl⟩ : ∃ g, a5 = some ⟨g, 0, none⟩ := by
            rcases hO.form with ⟨e1, e2⟩ | ⟨g, cap', cells, e1, _⟩
            · rw [e2] at hrl; simp at hrl; omega
            · simp only [Value.slice.injEq] at e1
              exact ⟨g, e1.1⟩
          obtain ⟨c1, c2⟩ := ownCell hO encU_len (i := k + i) (by rw [hrl]; omega) (j := 0) (by omega)
          have cy : ∃ vv, wr.cell? ⟨g, k + i, none⟩ = some vv := ⟨_, by simpa [encU] using c1⟩
          obtain ⟨vv, cy⟩ := cy
          have cf := c2 (k + i)
          have hset := ownSet hO encU_len (i := k + i) (by rw [hrl]; omega) (j := 0) (by omega) (x' := d[i]) (c := .int .u8 (d[i]).toNat) rfl
          rw [rowO_set hkd.out hil, Nat.mul_one, Nat.add_zero] at hset
          have hbs : Below w.heap.size w (wr.setCell ⟨g, k + i, none⟩ (.int .u8 (d[i]).toNat)) := hbr.setCell (p := ⟨g, k + i, none⟩) (hO.lt g rfl).1 _
          obtain ⟨q, hq⟩ : ∃ q : Nat, q = (d[i]).toNat := ⟨_, rfl⟩
          rw [← hq] at cx hset hbs
          replace hq := Lib.hid hq
          replace hset := Lib.hid hset
          replace hbs := Lib.hid hbs
          have d1 : decide ((i : Int) < (dl : Int)) = true := by simp; omega
          have hgl := World.lt_of_cell cy
          dsimp only at hgl
          clear c1 c2 h6 h7 h8 hrl hO hbr
          go_wp2_with fail
          exact ⟨⟨i + 1, by omega, by go_num, hset.out, hbs.out⟩, by simp [intOf]; omega⟩
        · obtain rfl : i = dl := by omega
          have d1 : decide ((i : Int) < (i : Int)) = false := by simp
          rw [hdl.out, hfull.out] at hO
          replace hO := Lib.hid hO
          go_wp2_with fail
          go_ret
          exact ⟨_, rfl, hO.out, hbr⟩
end Go.Proofs.Ytjhbeahkojippaa
