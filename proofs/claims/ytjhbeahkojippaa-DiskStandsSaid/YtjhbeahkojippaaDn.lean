/- Disk: the chapter's example, walked. -/
import Derived.Test.YtjhbeahkojippaaDm
import Derived.Lib.SlBytesConst
namespace Go.Proofs.Ytjhbeahkojippaa
open Go.RowKit Go.Maps
attribute [local go_sem] Oper.semAt_some
set_option linter.unusedVariables false
set_option linter.unusedSimpArgs false

theorem conv_const (w : World) (C : Array Value) (n c : Nat) : (convert 23 23 (.slice (some ⟨w.heap.size, 0, none⟩) n c)).run Try.prog (w.alloc (.cells C 5)) = .ok (.slice (some ⟨w.heap.size, 0, none⟩) n c) (w.alloc (.cells C 5 (C.size, C.size + 1))) :=
  Lib.run_convert_bytes_const w _ _ C n c Try.underlying23 Try.underlying5
attribute [local go_sem] conv_const
/-- The bytes of a constant text. -/
theorem sla_const (w : World) (C : Array Value) (f : Nat × Nat) (bs : List UInt8) (hc : C.toList = cellsU bs) (hm : bs.length ≤ maxLen) : SlA (w.alloc (.cells C 5 f)).heap.size 1 EU (w.alloc (.cells C 5 f)) (some ⟨w.heap.size, 0, none⟩) bs.length bs := by
  refine ⟨Nat.le_refl _, hm, by simp, fun _ => ⟨_, 0, rfl, by simp [World.size_alloc], fun i hi => ⟨[.int .u8 (bs[i]).toNat], rfl, fun j hj => ?_, rfl⟩⟩⟩
  obtain rfl : j = 0 := by omega
  rw [Nat.mul_one, Nat.add_zero, Nat.zero_add]
  have : (w.alloc (.cells C 5 f)).heap[w.heap.size]? = some (.cells C 5 f) := by
    show (w.heap.push _)[w.heap.size]? = _
    simp
  simp only [World.cell?, this]
  rw [← Array.getElem?_toList, hc]
  unfold cellsU
  simp [hi]

theorem own_slaU {w : World} {base : Nat} {v : Value} {bs : List UInt8} (h : OwnL encU w base 5 1 v bs) : ∃ ao cap, v = .slice ao bs.length cap ∧ SlA w.heap.size 1 EU w ao cap bs := by
  obtain ⟨ao, cap, rfl, hs⟩ := h.sla (E := EU) encU_len (fun _ _ => rfl)
  exact ⟨ao, cap, rfl, hs⟩

set_option maxRecDepth 100000 in
set_option maxHeartbeats 4000000 in
theorem known_any (w : World) : Calls Try.prog 8 #[] w fun e w' => e = .returned (.bool true) ∧ Below w.heap.size w w' := by
  have hsz1 : sA.size ≤ maxLen := by decide
  go_enter Try.func8, Try.ntmps8
  go_wp2_with fail
  refine (new_any 100 w (by omega) (by omega)).mono ?_
  rintro e w1 ⟨b, x, rfl, hD, hb1, _, _, _⟩
  have ok0 := OkM.empty 100 (by omega) (by omega)
  have ok1 : OkM 1 M1 := by have := ok0.write sA 0 [120, 121, 122]; rwa [m1] at this
  have ok2 : OkM 2 M2 := by have := ok1.sync sA; rwa [m2] at this
  have ok3 : OkM 3 M3 := by have := ok2.write sA 1 [49, 50]; rwa [m3] at this
  have ok4 : OkM 3 (crashM M3 [1]) := ok3.crash _
  dsimp only
  go_wp2_with fail
  have hba := belowAlloc w1 (.cells #[.int .u8 120, .int .u8 121, .int .u8 122] 5 (3, 4))
  have hs1 := sla_const w1 #[.int .u8 120, .int .u8 121, .int .u8 122] (3, 4) [120, 121, 122] rfl (by decide)
  refine (write_ok 0 sA 0 _ _ [120, 121, 122] _ hsz1 (hD.below hba) ok0 (by omega) (Nat.le_trans hb1.size hba.size) hs1 (by decide) m1).mono ?_
  rintro e w2 ⟨rfl, x2, hD2, hb2⟩
  have hb2' : Below w.heap.size w w2 := (hb1.trans (hba.mono hb1.size)).trans hb2
  clear hD hba hs1 hb1 hb2
  dsimp only
  go_wp2_with fail
  refine (sync_ok 0 sA w2 hsz1 hD2 ok1 (by omega) hb2'.size m2).mono ?_
  rintro e w3 ⟨rfl, x3, hD3, hb3⟩
  have hb3' := hb2'.trans hb3
  clear hD2 hb2' hb3
  dsimp only
  go_wp2_with fail
  have hba := belowAlloc w3 (.cells #[.int .u8 49, .int .u8 50] 5 (2, 3))
  have hs1 := sla_const w3 #[.int .u8 49, .int .u8 50] (2, 3) [49, 50] rfl (by decide)
  refine (write_ok 0 sA 1 _ _ [49, 50] _ hsz1 (hD3.below hba) ok2 (by omega) (Nat.le_trans hb3'.size hba.size) hs1 (by decide) m3).mono ?_
  rintro e w4 ⟨rfl, x4, hD4, hb4⟩
  have hb4' : Below w.heap.size w w4 := (hb3'.trans (hba.mono hb3'.size)).trans hb4
  clear hD3 hba hs1 hb3' hb4
  dsimp only
  go_wp2_with fail
  have hba := belowAlloc w4 (.cells #[.int .i64 1] 3)
  have hB := Blk.new w4 #[.int .i64 1] 3
  have hpk : SlA (w4.alloc (.cells #[.int .i64 1] 3)).heap.size 1 (RI .i64) (w4.alloc (.cells #[.int .i64 1] 3)) (some ⟨w4.heap.size, 0, none⟩) 1 [1] :=
    SlA.of_blk hB hB.lt (Nat.le_refl _) (by decide) (fun i hi => by
      have hi0 : i = 0 := by simpa using hi
      subst hi0
      exact ⟨[.int .i64 1], rfl, fun j hj => by
        have hj0 : j = 0 := by omega
        subst hj0
        rfl, by simp, by simp; decide⟩)
  refine (crash_ok [1] _ 1 _ (hD4.below hba) ok3 (by omega) (Nat.le_trans hb4'.size hba.size) hpk).mono ?_
  rintro e w5 ⟨⟨v, rfl⟩, x5, hD5, hb5⟩
  have hb5' : Below w.heap.size w w5 := (hb4'.trans (hba.mono hb4'.size)).trans hb5
  clear hD4 hba hB hpk hb4' hb5
  dsimp only
  go_wp2_with fail
  refine (read_any sA w5 hsz1 hD5 ok4).mono ?_
  rintro e w6 ⟨v6, rfl, hown, hb6⟩
  rw [m4.1] at hown
  rw [m4.2.1]
  obtain ⟨ao, cap, rfl, hsl⟩ := own_slaU hown
  have htx := textU hsl
  have hD6 := hD5.below hb6
  have hb6' := hb5'.trans (hb6.mono hb5'.size)
  have hpe := pending_any w6 hD6
  rw [m4.2.2] at hpe
  have hst : strU [120, 49, 122] = ⟨#[120, 49, 122]⟩ := rfl
  rw [hst] at htx
  simp only [List.length_cons, List.length_nil, Nat.zero_add, Nat.reduceAdd] at htx ⊢
  clear hD5 hown hsl hb6 hb5'
  go_wp2_with fail
  refine hpe.mono ?_
  rintro e w7 ⟨rfl, rfl⟩
  dsimp only
  go_wp2_with fail
  go_ret
  exact ⟨rfl, hb6'⟩
end Go.Proofs.Ytjhbeahkojippaa
