/- Entry: the items of a graph's operators, of the program. -/
import Derived.Test.YtcigbobihkkdiaaEb
import Derived.Test.YtcigbobihkkdiaaBaseQ
import Derived.Test.YtcigbobihkkdiaaWlp
import Derived.Test.YtcigbobihkkdiaaWn0
namespace Go.Proofs.Ytcigbobihkkdiaa
open Go.RowKit
set_option linter.unusedVariables false
set_option linter.unusedSimpArgs false

def intI (n : Int) : Itm := .mk 0 n ⟨#[]⟩ []
def txtI (s : ByteArray) : Itm := .mk 1 0 s []
def lstI (l : List Itm) : Itm := .mk 2 0 ⟨#[]⟩ l
def opL (o : TOp) : List Itm := [intI o.fKind, lstI (o.fIn.map intI), intI o.fArg, intI o.fNum, intI o.fRounds, intI o.fTest, intI o.fLim]
def opI (o : TOp) : Itm := lstI (opL o)

theorem wf_u32 {n : Int} (h : (Lit.int IntKind.u32 n).wf = true) : 0 ≤ n ∧ n ≤ 4294967295 := by
  simpa [Lit.wf, IntKind.min, IntKind.max, IntKind.bits, IntKind.signed] using h
theorem wf_u32_i64 {n : Int} (h : (Lit.int IntKind.u32 n).wf = true) : (Lit.int IntKind.i64 n).wf = true := by
  have := wf_u32 h
  have : -9223372036854775808 ≤ n ∧ n ≤ 9223372036854775807 := by omega
  simpa [Lit.wf, IntKind.min, IntKind.max, IntKind.bits, IntKind.signed] using this
theorem wrap_u32 {n : Int} (h : (Lit.int IntKind.u32 n).wf = true) : IntKind.i64.wrap n = n := by
  have := wf_u32 h
  rw [IntKind.wrap_i64]; omega
theorem _root_.Go.wpCalm_world {P : Program} {ops : Array Oper} {S : World → Prop} {Q : Exit → Act → World → Prop} {sp : List Nat} {L : Act → World → Prop} {k : Nat} {l : List Oper} {a : Act} {W : World} (h : ∀ w1, w1 = W → wpCalm P ops Q S sp L k l a w1) : wpCalm P ops Q S sp L k l a W := h _ rfl
theorem cellkeep {w w' : World} (hb : Below w.heap.size w w') {p : Addr} {v : Value} (h : w.cell? p = some v) : w'.cell? p = some v := (hb.cell (World.lt_of_cell h)).trans h
theorem keep6 {p0 p1 p2 p3 p4 p5 : Addr} {v0 v1 v2 v3 v4 v5 : Value} (w w' : World) (hb : Below w.heap.size w w')
    (h : w.cell? p0 = some v0 ∧ w.cell? p1 = some v1 ∧ w.cell? p2 = some v2 ∧ w.cell? p3 = some v3 ∧ w.cell? p4 = some v4 ∧ w.cell? p5 = some v5) :
    w'.cell? p0 = some v0 ∧ w'.cell? p1 = some v1 ∧ w'.cell? p2 = some v2 ∧ w'.cell? p3 = some v3 ∧ w'.cell? p4 = some v4 ∧ w'.cell? p5 = some v5 :=
  ⟨cellkeep hb h.1, cellkeep hb h.2.1, cellkeep hb h.2.2.1, cellkeep hb h.2.2.2.1, cellkeep hb h.2.2.2.2.1, cellkeep hb h.2.2.2.2.2⟩

theorem in_imp {B : Nat} {w w' : World} {ao : Option Addr} {cap : Nat} {xs : List Int} (h : SlA B 1 (RI .i64) w ao cap xs) (hb : Below B w w') : SlA B 1 (RI .i64) w' ao cap xs := h.imp hb (Nat.le_refl _) (fun _ _ _ h => h)
theorem in_at {B : Nat} {w : World} {b off cap i : Nat} {xs : List Int} (h : SlA B 1 (RI .i64) w (some ⟨b, off, none⟩) cap xs) (hi : i < xs.length) {x : Int} (hx : xs[i] = x) : w.cell? ⟨b, off + i, none⟩ = some (.int .i64 x) ∧ (Lit.int .i64 x).wf = true := by
  obtain ⟨cs, _, hc, hr⟩ := h.get i hi
  rw [hx] at hr
  obtain ⟨rfl, h0⟩ := hr
  exact ⟨by have := hc 0 (by omega); simpa using this, h0⟩

set_option maxRecDepth 100000 in
set_option maxHeartbeats 4000000 in
theorem ops_any (ops : List TOp) (ao : Option Addr) (cap : Nat) (w : World) (B : Nat) (hB : B ≤ w.heap.size) (hx : SlA B 7 (ROp B) w ao cap ops) (h16 : ops.length ≤ 16) (hin2 : ∀ o ∈ ops, o.fIn.length ≤ 2) :
    Calls Try.prog 19 #[.agg #[.slice ao ops.length cap]] w fun e w' => ∃ ao' cap', e = .returned (.agg #[.int .i64 2, .int .i64 0, .string ⟨#[]⟩, .slice ao' ops.length cap']) ∧ RItsP 3 (fun b => w.heap.size ≤ b ∧ b < w'.heap.size) w' ao' cap' (ops.map opI) ∧ Below w.heap.size w w' := by
  obtain ⟨n, hn⟩ : ∃ n, n = ops.length := ⟨_, rfl⟩
  rw [← hn] at h16 ⊢
  replace hn := Lib.hid hn
  obtain ⟨j0, hi, hz0, hz1, hz2⟩ := info_parts infoI
  go_enter Try.func19, Try.ntmps19
  go_upto_region 1 with fail
  refine Code.wp_world ?_
  intro w1 hw1
  have hb1 : Below w.heap.size w w1 := by rw [hw1]; exact below_alloc2 w _ _
  have hL : Blk w1 w.heap.size #[.slice ao n cap] 27 := by rw [hw1]; exact (Blk.new _ _ _).alloc _
  have hC : Blk w1 (w.heap.size + 1) #[.int .i64 0, .int .i64 0, .string ⟨#[]⟩, .slice none 0 0] 50 := by rw [hw1]; exact blk_new1 _ _ _ _
  have hs1 : w1.heap.size = w.heap.size + 2 := by rw [hw1]; simp
  clear hw1
  have q0 : w1.cell? ⟨w.heap.size, 0, none⟩ = some (.slice ao n cap) := hL.cellAt rfl
  have hx1 := ops_imp hx (hb1.mono hB)
  clear hx
  go_wp2_with fail
  go_loopw [3, 12] (fun x3 x12 wr => ∃ (k : Nat) (ps : List PIt), k ≤ n ∧ x12 = .int .i64 k ∧ ps.map (·.x) = (ops.take k).map opI ∧ OwnL encP wr w1.heap.size 50 4 x3 ps ∧ Below w1.heap.size w1 wr ∧
    (∀ p ∈ ps, RItP 3 (fun b => w1.heap.size ≤ b ∧ b < wr.heap.size ∧ x3.ownBlock ≠ some b) wr (encP p) p.x)) (fun _ x12 _ => n - (intOf x12).toNat)
  case atStart => exact ⟨0, [], Nat.zero_le _, rfl, rfl, OwnL.nil _ _ _ _ _, Below.refl _ _, by simp⟩
  case round =>
    obtain ⟨k, ps, hk, rfl, hpm, hown, hbel, hels⟩ := hrel
    obtain ⟨aov, capv, hvv, _, _, _⟩ := hown.slice
    subst hvv
    have hsz := hbel.size
    have hpk : ps.length = k := by have := congrArg List.length hpm; rw [List.length_map, List.length_map, List.length_take, ← hn.out] at this; omega
    replace hpk := Lib.hid hpk
    by_cases hkn : k < n
    · have hkx : k < ops.length := by rw [← hn.out]; exact hkn
      obtain ⟨b, off, rfl, hb, _⟩ := hx1.addr (by omega)
      obtain ⟨o, hxo⟩ : ∃ o, ops[k] = o := ⟨_, rfl⟩
      have hbB : B ≤ w1.heap.size := by omega
      obtain ⟨ao1, cap1, e0, e1, e2, e3, e4, e5, e6, z0, hin, z2, z3, z4, z5, z6⟩ := ROp.at (ops_imp hx1 (hbel.mono hbB)) hkx hxo
      have htake : (ops.take (k + 1)).map opI = (ops.take k).map opI ++ [opI o] := by rw [List.take_add_one, List.getElem?_eq_getElem hkx, hxo, List.map_append]; rfl
      have hm2 : o.fIn.length ≤ 2 := by rw [← hxo]; exact hin2 _ (List.getElem_mem hkx)
      obtain ⟨m, hm⟩ : ∃ m, m = o.fIn.length := ⟨_, rfl⟩
      rw [← hm] at e1 hm2
      replace hxo := Lib.hid hxo
      replace hm := Lib.hid hm
      have hb3 : b < wr.heap.size := by omega
      go_upto_region 5 with fail
      refine Code.wp_world ?_
      intro w2 hw2
      obtain ⟨kb, hkb⟩ : ∃ c, c = wr.heap.size := ⟨_, rfl⟩
      have hK2 : Blk w2 kb #[.int .i64 o.fKind, .slice ao1 m cap1, .int .i64 o.fArg, .int .u32 o.fNum, .int .i64 o.fRounds, .int .i64 o.fTest, .int .u32 o.fLim] 47 := by rw [hw2, hkb]; exact Blk.new _ _ _
      have hb2 : Below wr.heap.size wr w2 := by rw [hw2]; exact below_alloc1 _ _
      have hown2 : OwnL encP w2 w1.heap.size 50 4 (.slice aov ps.length capv) ps := by rw [hw2]; exact hown.alloc _
      rw [← hkb]
      have hs2e : w2.heap.size = kb + 1 := by rw [hw2, hkb]; simp
      clear hw2 e0 e2 e3 e4 e5 e6 e1
      replace hkb := Lib.hid hkb
      replace hs2e := Lib.hid hs2e
      have k1 : w2.cell? ⟨kb, 1, none⟩ = some (.slice ao1 m cap1) := hK2.cellAt rfl
      have hin' := in_imp hin (hb2.mono (by omega))
      clear hin
      go_wp2_with fail
      go_loopw [6, 19] (fun x6 x19 wi => ∃ j : Nat, j ≤ m ∧ x19 = .int .i64 j ∧ OwnL encP wi w2.heap.size 50 4 x6 ((o.fIn.take j).map (fun n => ⟨intI n, none, 0⟩)) ∧ Below w2.heap.size w2 wi) (fun _ x19 _ => m - (intOf x19).toNat)
      case atStart => exact ⟨0, Nat.zero_le _, rfl, OwnL.nil _ _ _ _ _, Below.refl _ _⟩
      case round =>
        obtain ⟨j, hj, rfl, hown6, hb6⟩ := hrel
        obtain ⟨ao6, cap6, hv6, _, _, _⟩ := hown6.slice
        subst hv6
        have hs6 := hb6.size
        have hs2 := hb2.size
        have hlj : ((o.fIn.take j).map (fun n => (⟨intI n, none, 0⟩ : PIt))).length = j := by rw [List.length_map, List.length_take, ← hm.out]; omega
        rw [hlj] at hown6 ⊢
        by_cases hjm : j < m
        · have hjx : j < o.fIn.length := by rw [← hm.out]; exact hjm
          obtain ⟨b1, o1, rfl, hbb1, _⟩ := hin'.addr (by omega)
          obtain ⟨iv, hiv⟩ : ∃ iv, o.fIn[j] = iv := ⟨_, rfl⟩
          obtain ⟨g0, g1⟩ := in_at (in_imp hin' (hb6.mono (by omega))) hjx hiv
          have htk : (o.fIn.take (j + 1)).map (fun n => (⟨intI n, none, 0⟩ : PIt)) = (o.fIn.take j).map (fun n => (⟨intI n, none, 0⟩ : PIt)) ++ [⟨intI iv, none, 0⟩] := by rw [List.take_add_one, List.getElem?_eq_getElem hjx, hiv, List.map_append]; rfl
          have hb1w : b1 < wr.heap.size := by omega
          replace hiv := Lib.hid hiv
          go_wp2_with (go_at_call 17; refine Shut.out ?kc1)
          unfold Shut
          refine (int_any _ _).mono ?_
          rintro e w3 ⟨rfl, hb63⟩
          dsimp only
          have hown3 := hown6.below hb63 (Nat.le_refl _)
          go_wp2_with (at_builtin; refine Shut.out ?kc2)
          unfold Shut
          refine wpList_app1g rfl _ _ 48 rfl Try.underlying48 hi hz0 hz1 hz2 rfl (by decide) (enc := encP) ⟨intI iv, none, 0⟩ rfl (xs := (o.fIn.take j).map (fun n => (⟨intI n, none, 0⟩ : PIt))) hown3 rfl (encP_len _) (encP_one _) (by rw [hlj]; omega) (by rw [hlj]; unfold maxLen; omega) (Nat.le_trans hs6 hb63.size) (fun g cap7 w7 hown7 hgr7 => ?_)
          rw [hlj] at hown7 hgr7 ⊢
          rw [← htk] at hown7
          have hb7 := hb6.trans ((hb63.mono hs6).grown hgr7.grown (Nat.le_trans hs6 hb63.size) (fun k hk => (hown6.lt k hk).1))
          clear hgr7 hown3 hown6 hb63
          go_wp2_with fail
          go_roundw
          case rel => exact ⟨j + 1, by omega, rfl, hown7, hb7⟩
          case measure => simp [intOf]; omega
        · obtain rfl : j = m := by omega
          have hfull : o.fIn.take j = o.fIn := List.take_of_length_le (by rw [← hm.out]; exact Nat.le_refl _)
          rw [hfull] at hown6 hlj
          have hb62 := hb2.trans (hb6.mono hs2)
          have hinR : RItsP 1 (fun b => w2.heap.size ≤ b ∧ b < wr.heap.size) wr ao6 cap6 (o.fIn.map intI) := by
            obtain ⟨aoz, capz, hez, hlz⟩ := RItsP.of_own (d := 1) (D := fun b => w2.heap.size ≤ b ∧ b < wr.heap.size) hown6 (fun p hp => by
              obtain ⟨nn, hnn, rfl⟩ := List.mem_map.1 hp
              refine RItP.one0 ?_
              obtain ⟨i, hi2, rfl⟩ := List.mem_iff_getElem.1 hnn
              obtain ⟨b1, o1, rfl, _, _⟩ := hin'.addr (by omega)
              exact (in_at hin' hi2 rfl).2) (fun g hg => hown6.lt g hg) (by rw [hlj]; omega)
            rw [hlj] at hez
            simp only [Value.slice.injEq] at hez
            obtain ⟨rfl, _, rfl⟩ := hez
            rwa [List.map_map] at hlz
          have hbkz := hK2.below (hb6.mono (by have := hs2e.out; omega)) hK2.lt
          have hList := fun (u : World) (hb : Below wr.heap.size wr u) => list_anyU 1 w2.heap.size (o.fIn.map intI) ao6 cap6 u (hinR.up hb) (Nat.le_trans hs6 hb.size)
          simp only [List.length_map, ← hm.out] at hList
          clear k1 hin' hown6
          go_wp2_with fail
          have wN : IntKind.i64.wrap o.fNum = o.fNum := wrap_u32 z3
          have wL : IntKind.i64.wrap o.fLim = o.fLim := wrap_u32 z6
          refine wp_region_mix (fun w w' => Below w.heap.size w w') (fun wx => wx.cell? ⟨kb, 0, none⟩ = some (.int .i64 o.fKind) ∧ wx.cell? ⟨kb, 2, none⟩ = some (.int .i64 o.fArg) ∧ wx.cell? ⟨kb, 3, none⟩ = some (.int .u32 o.fNum) ∧ wx.cell? ⟨kb, 4, none⟩ = some (.int .i64 o.fRounds) ∧ wx.cell? ⟨kb, 5, none⟩ = some (.int .i64 o.fTest) ∧ wx.cell? ⟨kb, 6, none⟩ = some (.int .u32 o.fLim)) 1 23 27 [1, 2, 4, 6, 7, 9, 10, 11, 13, 14, 16, 17, 19, 20, 21, 3, 5, 8, 12, 15, 18, 22] [3, 5, 8, 12, 15, 18, 22] [23, 24, 25, 26] (by kernel_rfl) (by kernel_rfl) (fun w => Below.refl _ _) (fun a b c h k => Below.trans h (Below.mono k h.size)) keep6 (fun d _ _ _ _ h => by cases d <;> exact h) ⟨hbkz.cellAt rfl, hbkz.cellAt rfl, hbkz.cellAt rfl, hbkz.cellAt rfl, hbkz.cellAt rfl, hbkz.cellAt rfl⟩ (fun hHeld => ?_)
          simp only [List.take_succ_cons, List.take_zero, List.drop_succ_cons, List.drop_zero, pickN, Nat.reduceSub]
          have hbc : Below wr.heap.size wr wr.drew := (Below.refl _ _).drew
          (refine wpCalm_q0 rfl rfl ⟨?_, ?_, ?_⟩; rotate_left; (focus (intro wx hSx; (try dsimp only at hSx); go_simp; (try with_reducible rfl))); (simp only [Act.put, List.setIfInBounds_toArray, List.set_cons_zero, List.set_cons_succ]))
          refine wpCalm_nil ?_
          iterate 15 (refine wpMid_q rfl rfl ⟨?_, ?_, ?_⟩; rotate_left; (focus (intro wx hSx; (try dsimp only at hSx); go_simp; (try with_reducible rfl))); (simp only [Act.put, List.setIfInBounds_toArray, List.set_cons_zero, List.set_cons_succ]))
          refine wpMid_s rfl rfl keep6 (fun w3 hbn hSn K' hK => ?_)
          go_simp
          replace hbc := Below.trans hbc (Below.mono hbn hbc.size)
          clear hbn
          refine (int_any _ _).mono ?_
          rintro e w' ⟨rfl, hbn⟩
          dsimp only
          refine hK.out _ _ hbn (fun hHeld => ?_)
          replace hbc := Below.trans hbc (Below.mono hbn hbc.size)
          clear hbn hSn hK K'
          try simp only [Act.put, List.setIfInBounds_toArray, List.set_cons_zero, List.set_cons_succ]
          refine wpMid_s rfl rfl keep6 (fun w4 hbn hSn K' hK => ?_)
          go_simp
          replace hbc := Below.trans hbc (Below.mono hbn hbc.size)
          clear hbn
          refine (hList _ hbc).mono ?_
          rintro e w5 ⟨ao4, cap4, rfl, hit4, hbn⟩
          dsimp only
          refine hK.out _ _ hbn (fun hHeld => ?_)
          replace hbc := Below.trans hbc (Below.mono hbn hbc.size)
          clear hbn hSn hK K'
          try simp only [Act.put, List.setIfInBounds_toArray, List.set_cons_zero, List.set_cons_succ]
          refine wpMid_s rfl rfl keep6 (fun w6 hbn hSn K' hK => ?_)
          go_simp
          replace hbc := Below.trans hbc (Below.mono hbn hbc.size)
          replace hit4 := hit4.up hbn
          clear hbn
          refine (int_any _ _).mono ?_
          rintro e w' ⟨rfl, hbn⟩
          dsimp only
          refine hK.out _ _ hbn (fun hHeld => ?_)
          replace hbc := Below.trans hbc (Below.mono hbn hbc.size)
          replace hit4 := hit4.up hbn
          clear hbn hSn hK K'
          try simp only [Act.put, List.setIfInBounds_toArray, List.set_cons_zero, List.set_cons_succ]
          refine wpMid_s rfl rfl keep6 (fun w6 hbn hSn K' hK => ?_)
          go_simp
          replace hbc := Below.trans hbc (Below.mono hbn hbc.size)
          replace hit4 := hit4.up hbn
          clear hbn
          refine (int_any _ _).mono ?_
          rintro e w' ⟨rfl, hbn⟩
          dsimp only
          refine hK.out _ _ hbn (fun hHeld => ?_)
          replace hbc := Below.trans hbc (Below.mono hbn hbc.size)
          replace hit4 := hit4.up hbn
          clear hbn hSn hK K'
          try simp only [Act.put, List.setIfInBounds_toArray, List.set_cons_zero, List.set_cons_succ]
          refine wpMid_s rfl rfl keep6 (fun w6 hbn hSn K' hK => ?_)
          go_simp
          replace hbc := Below.trans hbc (Below.mono hbn hbc.size)
          replace hit4 := hit4.up hbn
          clear hbn
          refine (int_any _ _).mono ?_
          rintro e w' ⟨rfl, hbn⟩
          dsimp only
          refine hK.out _ _ hbn (fun hHeld => ?_)
          replace hbc := Below.trans hbc (Below.mono hbn hbc.size)
          replace hit4 := hit4.up hbn
          clear hbn hSn hK K'
          try simp only [Act.put, List.setIfInBounds_toArray, List.set_cons_zero, List.set_cons_succ]
          refine wpMid_s rfl rfl keep6 (fun w6 hbn hSn K' hK => ?_)
          go_simp
          replace hbc := Below.trans hbc (Below.mono hbn hbc.size)
          replace hit4 := hit4.up hbn
          clear hbn
          refine (int_any _ _).mono ?_
          rintro e w' ⟨rfl, hbn⟩
          dsimp only
          refine hK.out _ _ hbn (fun hHeld => ?_)
          replace hbc := Below.trans hbc (Below.mono hbn hbc.size)
          replace hit4 := hit4.up hbn
          clear hbn hSn hK K'
          try simp only [Act.put, List.setIfInBounds_toArray, List.set_cons_zero, List.set_cons_succ]
          refine wpMid_s rfl rfl keep6 (fun w6 hbn hSn K' hK => ?_)
          go_simp
          replace hbc := Below.trans hbc (Below.mono hbn hbc.size)
          replace hit4 := hit4.up hbn
          clear hbn
          refine (int_any _ _).mono ?_
          rintro e w' ⟨rfl, hbn⟩
          dsimp only
          refine hK.out _ _ hbn (fun hHeld => ?_)
          replace hbc := Below.trans hbc (Below.mono hbn hbc.size)
          replace hit4 := hit4.up hbn
          clear hbn hSn hK K'
          try simp only [Act.put, List.setIfInBounds_toArray, List.set_cons_zero, List.set_cons_succ]
          refine wpMid_nil (fun w6 hbn hHeld => ?_)
          replace hbc := Below.trans hbc (Below.mono hbn hbc.size)
          replace hit4 := hit4.up hbn
          clear hbn
          refine wpCalm_s rfl rfl (fun K' hK => ?_)
          go_simp
          refine hK.out _ _ (keep6 _ _ (below_alloc1 _ _) hHeld) ?_
          clear hK K'
          try simp only [Act.put, List.setIfInBounds_toArray, List.set_cons_zero, List.set_cons_succ]
          refine wpCalm_world ?_
          intro w7 hw7
          have hB7 : Blk w7 w6.heap.size #[.int .i64 0, .int .i64 o.fKind, .string ⟨#[]⟩, .slice none 0 0, .int .i64 2, .int .i64 0, .string ⟨#[]⟩, .slice ao4 j cap4, .int .i64 0, .int .i64 o.fArg, .string ⟨#[]⟩, .slice none 0 0, .int .i64 0, .int .i64 o.fNum, .string ⟨#[]⟩, .slice none 0 0,
            .int .i64 0, .int .i64 o.fRounds, .string ⟨#[]⟩, .slice none 0 0, .int .i64 0, .int .i64 o.fTest, .string ⟨#[]⟩, .slice none 0 0, .int .i64 0, .int .i64 o.fLim, .string ⟨#[]⟩, .slice none 0 0] 50 := by rw [hw7]; exact Blk.new _ _ _
          have hb67 : Below w6.heap.size w6 w7 := by rw [hw7]; exact below_alloc1 _ _
          have hs7 : w7.heap.size = w6.heap.size + 1 := by rw [hw7]; simp
          clear hw7
          replace hHeld := keep6 _ _ hb67 hHeld
          have hlo6 : w2.heap.size ≤ w6.heap.size := Nat.le_trans hs6 hbc.size
          have hR7 : RItsP 2 (fun b => w2.heap.size ≤ b ∧ b < w7.heap.size) w7 (some ⟨w6.heap.size, 0, none⟩) 7 (opL o) := by
            rw [show j = (o.fIn.map intI).length by rw [List.length_map]; exact hm.out] at hB7
            refine RItsP.of_cells (ps := [⟨intI o.fKind, none, 0⟩, ⟨lstI (o.fIn.map intI), ao4, cap4⟩, ⟨intI o.fArg, none, 0⟩, ⟨intI o.fNum, none, 0⟩, ⟨intI o.fRounds, none, 0⟩, ⟨intI o.fTest, none, 0⟩, ⟨intI o.fLim, none, 0⟩]) hB7 ⟨hlo6, by omega⟩ rfl ?_ (by simp)
            intro p hp
            simp only [List.mem_cons, List.not_mem_nil, or_false] at hp
            rcases hp with rfl | rfl | rfl | rfl | rfl | rfl | rfl
            · exact RItP.one0 z0
            · exact RItP.one2 (hit4.up hb67)
            · exact RItP.one0 z2
            · exact RItP.one0 (wf_u32_i64 z3)
            · exact RItP.one0 z4
            · exact RItP.one0 z5
            · exact RItP.one0 (wf_u32_i64 z6)
          replace hbc := Below.trans hbc (Below.mono hb67 hbc.size)
          clear hB7 hit4
          refine wpCalm_s rfl rfl (fun K' hK => ?_)
          go_simp
          refine (list_anyU 2 w2.heap.size (opL o) _ 7 w7 hR7 (by omega)).mono ?_
          rintro e w8 ⟨ao8, cap8, rfl, hit8, hbn⟩
          dsimp only
          replace hHeld := keep6 _ _ hbn hHeld
          refine hK.out _ _ hHeld ?_
          clear hK K'
          try simp only [Act.put, List.setIfInBounds_toArray, List.set_cons_zero, List.set_cons_succ]
          replace hbc := Below.trans hbc (Below.mono hbn hbc.size)
          clear hbn
          refine wpCalm_s rfl rfl (fun K' hK => ?_)
          go_simp
          refine hK.out _ _ (keep6 _ _ (below_alloc1 _ _) hHeld) ?_
          clear hK K'
          try simp only [Act.put, List.setIfInBounds_toArray, List.set_cons_zero, List.set_cons_succ]
          have hb28 := hb6.trans (hbc.mono hs6)
          have hown8 := hown2.below hb28 (Nat.le_refl _)
          have hK8 := hK2.below hb28 hK2.lt
          have hlo8 := hb28.size
          have hsz2 := Nat.le_trans hsz hs2
          refine wpCalm_s rfl rfl (fun K' hK => ?_)
          refine step_app1g rfl _ _ 48 rfl Try.underlying48 hi hz0 hz1 hz2 rfl (by decide) (enc := encP) ⟨opI o, ao8, cap8⟩ rfl hown8 rfl (encP_len _) (encP_one _) (by have := hpk.out; omega) (by have := hpk.out; unfold maxLen; omega) (by omega) (fun g cap9 w9 hown9 hgr9 => ?_)
          have hK9 := hgr9.blk hK8 (hown8.ne_blk hK8 (by decide))
          have hb18 := hb2.trans (hb28.mono hs2)
          have hels9 := elems_grow3 (p := ⟨opI o, ao8, cap8⟩) hgr9 (fun b hb => (hown.lt b hb).2) hsz hb18 hels (RItP.one2 (hit8.imp fun b hb => ⟨⟨Nat.le_trans hs2 hb.1, hb.2⟩, rfl⟩))
          have hbel9 := hbel.trans ((hb18.mono hsz).grown hgr9.grown (by omega) (fun k hk => (hown8.lt k hk).1))
          clear hgr9 hown8 hit8 hels hK8 hown hown2
          refine hK.out _ _ ⟨hK9.cellAt rfl, hK9.cellAt rfl, hK9.cellAt rfl, hK9.cellAt rfl, hK9.cellAt rfl, hK9.cellAt rfl⟩ ?_
          clear hK K'
          try simp only [Act.put, List.setIfInBounds_toArray, List.set_cons_zero, List.set_cons_succ]
          refine wpCalm_nil ?_
          go_wp2_with fail
          go_roundw
          case rel => exact ⟨k + 1, ps ++ [⟨opI o, ao8, cap8⟩], by omega, rfl, by rw [List.map_append, hpm, htake]; rfl, hown9, hbel9, hels9⟩
          case measure => simp [intOf]; omega
    · obtain rfl : k = n := by omega
      have hpl : ps.map (·.x) = ops.map opI := by rw [hpm, List.take_of_length_le (by rw [← hn.out]; exact Nat.le_refl _)]
      obtain ⟨aoz, capz, hez, hlz⟩ := RItsP.of_own hown (D := fun b => w1.heap.size ≤ b ∧ b < wr.heap.size) (fun p hp => (hels p hp).imp fun b hb => ⟨⟨hb.1, hb.2.1⟩, rfl⟩) (fun g hg => hown.lt g hg) (by have := hpk.out; omega)
      cases hez
      rw [hpl] at hlz
      have hList := list_anyU 3 w1.heap.size (ops.map opI) aov capv wr hlz hsz
      simp only [List.length_map, ← hn.out] at hList
      rw [hpk.out]
      have hbw := hb1.trans (hbel.mono hb1.size)
      clear hels hown hx1 q0 hL
      go_wp2_with (go_at_call 31; refine Shut.out ?kl)
      unfold Shut
      refine hList.mono ?_
      rintro e w3 ⟨ao3, cap3, rfl, hit3, hb3⟩
      dsimp only
      obtain ⟨rb, hrb⟩ : ∃ rb, rb = w.heap.size + 1 := ⟨_, rfl⟩
      have hC3 := (hC.below hbel hC.lt).below hb3 (by have := hC.lt; omega)
      rw [← hrb] at hC3 ⊢
      have f0 := hC3.frozen 0
      have f1 := hC3.frozen 1
      have f2 := hC3.frozen 2
      have f3 := hC3.frozen 3
      obtain ⟨q0, q1, q2, q3⟩ := blk4 hC3
      replace hrb := Lib.hid hrb
      go_wp2_with fail
      obtain ⟨w7, hw7⟩ : ∃ w7, w7 = (((w3.setCell ⟨rb, 0, none⟩ (.int .i64 2)).setCell ⟨rb, 1, none⟩ (.int .i64 0)).setCell ⟨rb, 2, none⟩ (.string ⟨#[]⟩)).setCell ⟨rb, 3, none⟩ (.slice ao3 k cap3) := ⟨_, rfl⟩
      have hb7 : Blk w7 rb #[.int .i64 2, .int .i64 0, .string ⟨#[]⟩, .slice ao3 k cap3] 50 := by rw [hw7]; exact (((hC3.set 0 _).set 1 _).set 2 _).set 3 _
      have hch : Chg (fun k => k = rb) w3 w7 := by rw [hw7]; exact ((((Chg.refl (fun k => k = rb) w3).setCell ⟨rb, 0, none⟩ _ (fun _ => rfl)).setCell ⟨rb, 1, none⟩ _ (fun _ => rfl)).setCell ⟨rb, 2, none⟩ _ (fun _ => rfl)).setCell ⟨rb, 3, none⟩ _ (fun _ => rfl)
      rw [← hw7]
      clear hw7
      refine bodyPost_ret (results_cell_row rfl _ _ rb 50 _ (0, 0) _ rfl hb7 Try.underlying50 rfl (by kernel_rfl)) rfl ?_
      have hbw3 := hbw.trans (hb3.mono hbw.size)
      have hrb' := hrb.out
      have hs1' := hs1
      have hsw3 := hbw3.size
      refine ⟨ao3, cap3, rfl, hit3.imp fun b hb => ⟨⟨by omega, by have := hch.size; omega⟩, hch.block b hb.2 (by omega)⟩, hbw3.trans (hch.below hsw3 (fun b hb h => by omega))⟩
end Go.Proofs.Ytcigbobihkkdiaa
