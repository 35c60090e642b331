/- Graph: the reference's Uses. -/
import Derived.Test.YtbiakolkcikeiaaGm
import Derived.Test.YtbiakolkcikeiaaBaseJ
namespace Go.Proofs.Ytbiakolkcikeiaa
open Go.RowKit
set_option linter.unusedVariables false

def encU (x : Nat × Nat) : List Value := [.int .i64 (x.1 : Nat), .int .i64 (x.2 : Nat)]
theorem encU_len (x : Nat × Nat) : (encU x).length = 2 := rfl
theorem encU_one (x : Nat × Nat) : ∀ u ∈ encU x, u.oneCell' = true := by
  intro u hu
  simp only [encU, List.mem_cons, List.not_mem_nil, or_false] at hu
  rcases hu with rfl | rfl <;> rfl
theorem infoU : (Try.prog.info? 72).map (fun i => (i.zero, i.size, i.bytes)) = some (some (.agg #[.int .i64 0, .int .i64 0]), 2, 16) := by kernel_rfl

set_option maxRecDepth 100000 in
set_option maxHeartbeats 4000000 in
theorem ruses_any (ops : List TOp) (cap : Nat) (ao : Option Addr) (fr : Int) (B : Nat) (w : World) (hB : B ≤ w.heap.size) (hx : SlA B 7 (ROp B) w ao cap ops) (hbd : ((usesL ops fr).length + 1) * 16 ≤ 140737488355328) :
    Calls Try.prog 35 #[.agg #[.slice ao ops.length cap], .int .i64 fr] w fun e w' => Below w.heap.size w w' ∧ ∃ v, e = .returned v ∧ OwnL encU w' w.heap.size 72 2 v (usesL ops fr) := by
  obtain ⟨i0, hi, hz0, hz1, hz2⟩ := info_parts infoU
  have hlen := hx.len
  obtain ⟨n, hn⟩ : ∃ n, n = ops.length := ⟨_, rfl⟩
  rw [← hn] at hlen ⊢
  obtain ⟨tl, htl⟩ : ∃ t, t = (usesL ops fr).length := ⟨_, rfl⟩
  rw [← htl] at hbd
  replace htl := Lib.hid htl
  replace hn := Lib.hid hn
  go_enter Try.func35, Try.ntmps35
  go_wp2_with fail
  have hbl : Blk (w.alloc (.cells #[.slice ao n cap] 24)) w.heap.size #[.slice ao n cap] 24 := Blk.new _ _ _
  have hb0 : Below w.heap.size w (w.alloc (.cells #[.slice ao n cap] 24)) := (Below.refl _ _).alloc (Nat.le_refl _) _
  generalize w.alloc (.cells #[.slice ao n cap] 24) = w1 at hbl hb0 ⊢
  go_loopw [5, 6] (fun v i wr => ∃ ii : Nat, ii ≤ n ∧ i = .int .i64 ii ∧ Below w.heap.size w wr ∧ Blk wr w.heap.size #[.slice ao n cap] 24 ∧ OwnL encU wr (w.heap.size + 1) 72 2 v (usesK ops fr ii)) (fun _ i _ => n - (intOf i).toNat)
  case atStart => exact ⟨0, Nat.zero_le _, rfl, hb0, hbl, OwnL.nil _ _ _ _ _⟩
  case round =>
    clear hbl hb0 w1
    obtain ⟨ii, hii, rfl, hbel, hbl, hown⟩ := hrel
    have cg := hbl.cellAt (i := 0) (v := .slice ao n cap) rfl
    by_cases hin : ii < n
    · have hix : ii < ops.length := by rw [← hn.out]; exact hin
      obtain ⟨gb, goff, rfl, hgb, _⟩ := hx.addr (by omega)
      obtain ⟨o, ho⟩ : ∃ o, ops[ii] = o := ⟨_, rfl⟩
      have hio : ops[ii]? = some o := by rw [List.getElem?_eq_getElem hix, ho]
      have hsucc := usesK_succ ops fr ii o hio
      have hpx := usesK_prefix ops fr (show ii + 1 ≤ ops.length by omega) (Nat.le_refl _)
      obtain ⟨il, hil⟩ : ∃ il, il = o.fIn.length := ⟨_, rfl⟩
      have hill : il ≤ 9223372036854775807 := by
        obtain ⟨ao1, cap1, e0, e1, e2, e3, e4, e5, e6, _, hin2, _⟩ := ROp.at (imp_ops hx (hbel.mono hB)) hix ho
        rw [hil]; exact hin2.len
      replace hil := Lib.hid hil
      replace ho := Lib.hid ho
      replace hio := Lib.hid hio
      replace hsucc := Lib.hid hsucc
      replace hpx := Lib.hid hpx
      go_wp2_with fail
      go_loopw [5, 7] (fun v k wx => ∃ kk : Nat, kk ≤ il ∧ k = .int .i64 kk ∧ Below w.heap.size w wx ∧ Blk wx w.heap.size #[.slice (some ⟨gb, goff, none⟩) n cap] 24 ∧ OwnL encU wx (w.heap.size + 1) 72 2 v (usesK ops fr ii ++ insK ii o.fIn fr kk)) (fun _ k _ => il - (intOf k).toNat)
      case atStart => exact ⟨0, Nat.zero_le _, rfl, hbel, hbl, by rw [show insK ii o.fIn fr 0 = [] from rfl, List.append_nil]; exact hown⟩
      case round =>
        clear hbel hbl hown cg
        obtain ⟨kk, hkk, rfl, hbel, hbl, hown⟩ := hrel
        have cg := hbl.cellAt (i := 0) (v := .slice (some ⟨gb, goff, none⟩) n cap) rfl
        obtain ⟨ao1, cap1, e0, e1, e2, e3, e4, e5, e6, _, hin2, _⟩ := ROp.at (imp_ops hx (hbel.mono hB)) hix ho.out
        rw [← hil.out] at e1
        have hgw : gb < wr.heap.size := by have := hbel.size; omega
        clear e0 e2 e3 e4 e5 e6
        by_cases hkl : kk < il
        · have hklx : kk < o.fIn.length := by rw [← hil.out]; exact hkl
          obtain ⟨b2, off2, rfl, hb2, _⟩ := hin2.addr (by omega)
          obtain ⟨v, hv⟩ : ∃ v, v = o.fIn[kk] := ⟨_, rfl⟩
          have cin : wr.cell? ⟨b2, off2 + kk, none⟩ = some (.int .i64 v) := by
            obtain ⟨cs, _, h6, rfl, _⟩ := hin2.get kk hklx
            have h7 := h6 0 (by omega)
            rw [Nat.mul_one, Nat.add_zero] at h7
            rw [h7, hv]
            rfl
          have hs2 := insK_succ ii o.fIn fr kk
          rw [List.getElem?_eq_getElem hklx, Option.getD_some, ← hv] at hs2
          have hb2w : b2 < wr.heap.size := by have := hbel.size; omega
          clear hin2 hv
          by_cases hvf : v = fr
          · have hs3 : insK ii o.fIn fr (kk + 1) = insK ii o.fIn fr kk ++ [(ii, kk)] := by rw [hs2, hvf]; simp
            obtain ⟨cl, hcl⟩ : ∃ cl, cl = usesK ops fr ii ++ insK ii o.fIn fr kk := ⟨_, rfl⟩
            have hcl2 : cl.length < tl := by
              have h1 : cl ++ [(ii, kk)] <+: usesL ops fr := by
                rw [hcl, List.append_assoc, ← hs3]
                refine List.IsPrefix.trans ?_ hpx.out
                rw [hsucc.out]
                exact (List.prefix_append_right_inj _).2 (insK_prefix ii o.fIn fr (by omega))
              have h2 := h1.length_le
              rw [List.length_append, List.length_singleton] at h2
              rw [htl.out]; omega
            have hs4 : usesK ops fr ii ++ insK ii o.fIn fr (kk + 1) = cl ++ [(ii, kk)] := by rw [hs3, ← List.append_assoc, hcl]
            rw [← hcl] at hown
            have hcn : decide (v = fr) = true := by simpa using hvf
            have hce : (v == fr) = true := by simpa using hvf
            have hsz := hbel.size
            have hwl := hbl.lt
            replace hs4 := Lib.hid hs4
            clear hcl hs2 hs3 hvf
            go_wp2_with (at_builtin; (refine wpList_app1 rfl _ _ 69 rfl Try.underlying69 hi hz0 hz1 hz2 rfl (by decide) (enc := encU) (ii, kk) rfl hown rfl (encU_len _) (encU_one _) ?hb1 ?hb2 ?hb3 ?next))
            case hb1 => omega
            case hb2 => unfold maxLen; omega
            case hb3 => omega
            case next =>
              intro a1 cp1 w4 hown4 hb4 hgr
              have hbl4 := hbl.below hb4 (Nat.lt_succ_self _)
              have hbel4 := hbel.trans (hb4.mono (Nat.le_succ _))
              clear hb4 hgr hown hbl hbel
              go_wp2_with fail
              go_roundw
              case rel => exact ⟨kk + 1, by omega, by go_num, hbel4, hbl4, by rw [hs4.out]; exact (by simpa using hown4)⟩
              case measure => simp [intOf]; omega
          · have hce : (v == fr) = false := by simpa using hvf
            have hs3 : insK ii o.fIn fr (kk + 1) = insK ii o.fIn fr kk := by rw [hs2, hce]; simp
            replace hs3 := Lib.hid hs3
            clear hs2 hvf
            go_wp2_with fail
            go_roundw
            case rel => exact ⟨kk + 1, by omega, by go_num, hbel, hbl, by rw [hs3.out]; exact hown⟩
            case measure => simp [intOf]; omega
        · obtain rfl : kk = il := by omega
          go_wp2_with fail
          go_roundw
          case rel => exact ⟨ii + 1, by omega, by go_num, hbel, hbl, by rw [hsucc.out, ← hil.out]; exact hown⟩
          case measure => simp [intOf]; omega
    · obtain rfl : ii = n := by omega
      go_wp2_with fail
      go_ret
      exact ⟨hbel, _, rfl, by rw [show usesL ops fr = usesK ops fr ops.length from rfl, ← hn.out]; exact hown.base_le (Nat.le_succ _)⟩
end Go.Proofs.Ytbiakolkcikeiaa
