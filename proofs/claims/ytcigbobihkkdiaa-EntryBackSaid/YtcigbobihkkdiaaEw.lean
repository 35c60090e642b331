/- Entry: the walks of EntryApart, EntryBack. -/
import Derived.Test.YtcigbobihkkdiaaEz
namespace Go.Proofs.Ytcigbobihkkdiaa
open Go.RowKit
set_option linter.unusedVariables false
set_option linter.unusedSimpArgs false

theorem eagg {B : Nat} {w : World} {c : Array Value} {x : TEntry} (h : REntry B w (Value.cells (.agg c)).toList x) : ∃ ao cap, c = encE x ao cap ∧ SlA B 7 (ROp B) w ao cap x.fGraph.fOps ∧ wfE x ∧ x.fRec.fKey.size ≤ maxLen := by
  obtain ⟨ao, cap, hc, z0, z1, z2, z3, z4, z5, hs, z7⟩ := h
  have hc' : c.toList = [.int .i64 x.fKind, .int .i64 x.fRec.fProducer, .int .i64 x.fRec.fSeq, .int .i64 x.fRec.fPart, .string x.fRec.fKey, .int .u32 x.fRec.fVal, .slice ao x.fGraph.fOps.length cap, .int .i64 x.fN] := hc
  refine ⟨ao, cap, by unfold encE; rw [← hc'], hs, ⟨z0, z1, z2, z3, z5, z7, ?_⟩, z4⟩
  intro o ho
  obtain ⟨i, hi, rfl⟩ := List.mem_iff_getElem.1 ho
  obtain ⟨b, off, rfl, hb, h7⟩ := hs.addr (by omega)
  obtain ⟨cs', _, _, ao1, cap1, _, w0, w1, w2, w3, w4, w5, w6⟩ := h7 i hi
  refine ⟨w0, ?_, w2, w3, w4, w5, w6⟩
  intro n hn
  obtain ⟨j, hj, rfl⟩ := List.mem_iff_getElem.1 hn
  obtain ⟨b1, off1, rfl, hb1, h8⟩ := w1.addr (by omega)
  obtain ⟨cs2, _, _, _, hw⟩ := h8 j hj
  exact hw
theorem entV_err {x : TEntry} (h : (entV x).2 ≠ 0) : (entV x).1 = [] := by
  unfold entV at h ⊢
  split
  · rfl
  · rename_i h1
    rw [if_neg h1] at h
    split
    · rfl
    · rename_i h2
      rw [if_neg h2] at h
      dsimp only at h ⊢
      unfold encV at h ⊢
      split
      · rfl
      · rename_i h3
        rw [if_neg h3] at h
        split
        · rfl
        · rename_i h4
          rw [if_neg h4] at h
          exact absurd rfl h
theorem ent_back2 {x : TEntry} (hw : wfE x) (h : (entV x).2 = 0) : edV (entV x).1 = (x, 0) := by
  by_cases h0 : x.fKind = 0
  · have hg : goodB x = true := by
      unfold entV at h
      by_cases hg : goodB x = false
      · rw [if_pos hg] at h; cases h
      · simpa using hg
    have hv : (entV x).1 = [] := by rw [entV, if_neg (by rw [hg]; simp), if_pos h0]
    rw [hv]
    unfold goodB at hg
    obtain ⟨⟨p1, p2, p3, p4, p5, p6, p7⟩, hins, hr⟩ := of_decide_eq_true hg
    have hrec := bare_rec (p5.resolve_left (by omega))
    have hops := List.length_eq_zero_iff.1 (p6.resolve_left (by omega))
    have hn := p7 (.inl h0)
    have hx : x = zEnt := ent_eq.2 ⟨h0, hn, hrec, hops⟩
    rw [hx]
    rfl
  · exact ent_back hw h h0
theorem edV_wfE {s : List Nat} (hb : ∀ x ∈ s, x < 256) (hl : wfL (decV s).2) : wfE (edV s).1 := by
  have hz : wfE zEnt := ⟨rfl, rfl, rfl, rfl, rfl, rfl, by simp [zEnt]⟩
  rw [← dec_law hb hl]
  unfold rdV
  split
  · exact hz
  · split
    · exact hz
    · split
      · exact gE_wfE hl
      · exact hz
theorem entV_lt (x : TEntry) : ∀ b ∈ (entV x).1, b < 256 := by
  unfold entV
  split
  · simp
  · split
    · simp
    · exact encV_lt (entI x)

set_option maxRecDepth 100000 in
set_option maxHeartbeats 2000000 in
theorem eapart_walk (x y : TEntry) (ao1 ao2 : Option Addr) (cap1 cap2 : Nat) (w : World) (hx : SlA w.heap.size 7 (ROp w.heap.size) w ao1 cap1 x.fGraph.fOps) (hy : SlA w.heap.size 7 (ROp w.heap.size) w ao2 cap2 y.fGraph.fOps) (hw1 : wfE x) (hw2 : wfE y) :
    Calls Try.prog 7 #[.agg (encE x ao1 cap1), .agg (encE y ao2 cap2)] w fun e w' => e = .returned (.bool true) ∧ Below w.heap.size w w' := by
  have hinj : (entV x).2 = 0 → (entV y).2 = 0 → ((entV x).1 = (entV y).1 ↔ x = y) := by
    intro h1 h2
    constructor
    · intro h
      have a1 := ent_back2 hw1 h1
      have a2 := ent_back2 hw2 h2
      rw [h, a2] at a1
      simpa using a1.symm
    · rintro rfl; rfl
  have he1 := @entV_err x
  have he2 := @entV_err y
  have hl1 := entV_lt x
  have hl2 := entV_lt y
  obtain ⟨z0, z1, z2, z3, z5, z7, _⟩ := hw1
  obtain ⟨y0, y1, y2, y3, y5, y7, _⟩ := hw2
  have hE1 := fun (u : World) (hb : Below w.heap.size w u) => eencode_any x ao1 cap1 u w.heap.size hb.size (ops_imp hx hb) z0 z1 z2 z3 z5 z7
  have hE2 := fun (u : World) (hb : Below w.heap.size w u) => eencode_any y ao2 cap2 u w.heap.size hb.size (ops_imp hy hb) y0 y1 y2 y3 y5 y7
  have hS := fun (u : World) (hb : Below w.heap.size w u) => esame_any w.heap.size x y ao1 ao2 cap1 cap2 u hb.size (ops_imp hx hb) (ops_imp hy hb)
  obtain ⟨⟨S, E⟩, hSE⟩ : ∃ t, t = entV x := ⟨_, rfl⟩
  obtain ⟨⟨T, F⟩, hTF⟩ : ∃ t, t = entV y := ⟨_, rfl⟩
  rw [← hSE] at hE1 hinj he1 hl1
  rw [← hTF] at hE2 hinj he2 hl2
  dsimp only at hE1 hE2 hinj he1 he2 hl1 hl2
  obtain ⟨XY, hXY⟩ : ∃ p : Prop, p = (x = y) := ⟨_, rfl⟩
  rw [← hXY] at hinj hS
  clear hSE hTF hXY hx hy
  have hcmp : ((toB S).toList == (toB T).toList) = decide (S = T) := by
    have := toB_eq hl1 hl2
    by_cases hb : S = T
    · rw [this.2 hb, decide_eq_true hb]
    · rw [decide_eq_false hb]
      cases hcc : (toB S).toList == (toB T).toList with
      | false => rfl
      | true => exact absurd (this.1 hcc) hb
  have hn1 : E ≠ 0 → (toB S) = ⟨#[]⟩ := fun h => by rw [he1 h]; rfl
  have hn2 : F ≠ 0 → (toB T) = ⟨#[]⟩ := fun h => by rw [he2 h]; rfl
  obtain ⟨q, hq⟩ : ∃ q, q = decide (S = T) := ⟨_, rfl⟩
  have hqi : E = 0 → F = 0 → (q = true ↔ XY) := fun h1 h2 => by rw [hq, decide_eq_true_eq]; exact hinj h1 h2
  rw [← hq] at hcmp
  obtain ⟨sb, hsb⟩ : ∃ t, t = toB S := ⟨_, rfl⟩
  obtain ⟨tb, htb⟩ : ∃ t, t = toB T := ⟨_, rfl⟩
  rw [← hsb] at hE1 hcmp hn1
  rw [← htb] at hE2 hcmp hn2
  obtain ⟨n1, hnn1⟩ : ∃ n, n = x.fGraph.fOps.length := ⟨_, rfl⟩
  obtain ⟨n2, hnn2⟩ : ∃ n, n = y.fGraph.fOps.length := ⟨_, rfl⟩
  unfold encE at hE1 hE2 hS ⊢
  rw [← hnn1] at hE1 hS ⊢
  rw [← hnn2] at hE2 hS ⊢
  clear hsb htb hq hinj he1 he2 hl1 hl2 hnn1 hnn2
  replace hE1 := Lib.hid hE1
  replace hE2 := Lib.hid hE2
  replace hS := Lib.hid hS
  replace hqi := Lib.hid hqi
  replace hn1 := Lib.hid hn1
  replace hn2 := Lib.hid hn2
  replace hcmp := Lib.hid hcmp
  go_enter Try.func7, Try.ntmps7
  go_upto_region 1 with fail
  refine Code.wp_world ?_
  intro w1 hw1
  have hb1 : Below w.heap.size w w1 := by rw [hw1]; exact below_alloc2 w _ _
  have hL : Blk w1 w.heap.size #[.int .i64 x.fKind, .int .i64 x.fRec.fProducer, .int .i64 x.fRec.fSeq, .int .i64 x.fRec.fPart, .string x.fRec.fKey, .int .u32 x.fRec.fVal, .slice ao1 n1 cap1, .int .i64 x.fN] 29 := by rw [hw1]; exact (Blk.new _ _ _).alloc _
  have hM : Blk w1 (w.heap.size + 1) #[.int .i64 y.fKind, .int .i64 y.fRec.fProducer, .int .i64 y.fRec.fSeq, .int .i64 y.fRec.fPart, .string y.fRec.fKey, .int .u32 y.fRec.fVal, .slice ao2 n2 cap2, .int .i64 y.fN] 29 := by rw [hw1]; exact blk_new1 _ _ _ _
  obtain ⟨la, hla⟩ : ∃ c, c = w.heap.size := ⟨_, rfl⟩
  obtain ⟨lb, hlb⟩ : ∃ c, c = w.heap.size + 1 := ⟨_, rfl⟩
  rw [← hlb] at hM
  rw [← hla] at hL
  rw [← hlb, ← hla]
  clear hw1
  replace hla := Lib.hid hla
  replace hlb := Lib.hid hlb
  have hEa := hE1.out w1 hb1
  obtain ⟨c0, c1, c2, c3, c4, c5, c6, c7⟩ := blk8 hL
  go_wp2_with (go_at_call 8; refine Shut.out ?k1)
  unfold Shut
  refine hEa.mono ?_
  rintro e w2 ⟨rfl, hb12⟩
  dsimp only
  have hb2 := hb1.trans (hb12.mono hb1.size)
  replace hL := hL.below hb12 hL.lt
  replace hM := hM.below hb12 hM.lt
  have hEb := hE2.out w2 hb2
  clear hEa hE1 hE2 c0 c1 c2 c3 c4 c5 c6 c7 hb12
  obtain ⟨c0, c1, c2, c3, c4, c5, c6, c7⟩ := blk8 hM
  go_wp2_with (go_at_call 8; refine Shut.out ?k2)
  unfold Shut
  refine hEb.mono ?_
  rintro e w3 ⟨rfl, hb23⟩
  dsimp only
  have hb3 := hb2.trans (hb23.mono hb2.size)
  replace hL := hL.below hb23 hL.lt
  replace hM := hM.below hb23 hM.lt
  clear hEb c0 c1 c2 c3 c4 c5 c6 c7 hb23
  have hK := eknown_any w3
  by_cases hE0 : E = 0
  case neg =>
    have hs0 := hn1.out hE0
    subst hs0
    have d1 : ((E : Int) != 0) = true := by simpa using hE0
    have d1' : ((E : Int) == 0) = false := by simpa using hE0
    clear hcmp hqi hS
    go_wp2_with (go_at_call 10; refine Shut.out ?k3)
    unfold Shut
    refine hK.mono ?_
    rintro e w4 ⟨rfl, hb34⟩
    dsimp only
    have hb4 := hb3.trans (hb34.mono hb3.size)
    clear hK hL hM
    by_cases hF0 : F = 0
    · subst hF0
      go_wp2_with fail
      go_ret
      exact ⟨rfl, hb4⟩
    · have ht0 := hn2.out hF0
      subst ht0
      have d2' : ((F : Int) == 0) = false := by simpa using hF0
      go_wp2_with fail
      go_ret
      exact ⟨rfl, hb4⟩
  subst hE0
  by_cases hF0 : F = 0
  case neg =>
    have ht0 := hn2.out hF0
    subst ht0
    have d1 : ((F : Int) != 0) = true := by simpa using hF0
    have d1' : ((F : Int) == 0) = false := by simpa using hF0
    clear hcmp hqi hS
    rw [show ((0 : Nat) : Int) = 0 from rfl]
    go_wp2_with (go_at_call 10; refine Shut.out ?k4)
    unfold Shut
    refine hK.mono ?_
    rintro e w4 ⟨rfl, hb34⟩
    dsimp only
    have hb4 := hb3.trans (hb34.mono hb3.size)
    clear hK hL hM
    go_wp2_with fail
    go_ret
    exact ⟨rfl, hb4⟩
  subst hF0
  have hqj : q = true ↔ XY := hqi.out rfl rfl
  clear hqi
  replace hqj := Lib.hid hqj
  rw [show ((0 : Nat) : Int) = 0 from rfl]
  go_wp2_with (go_at_call 10; refine Shut.out ?k5)
  unfold Shut
  refine hK.mono ?_
  rintro e w4 ⟨rfl, hb34⟩
  dsimp only
  have hb4 := hb3.trans (hb34.mono hb3.size)
  replace hL := hL.below hb34 hL.lt
  replace hM := hM.below hb34 hM.lt
  obtain ⟨c0, c1, c2, c3, c4, c5, c6, c7⟩ := blk8 hL
  obtain ⟨e0, e1, e2, e3, e4, e5, e6, e7⟩ := blk8 hM
  have hSm := hS.out w4 hb4
  have hcm := hcmp.out
  clear hK hS hL hM hcmp
  go_wp2_with (go_at_call 15; refine Shut.out ?k6)
  unfold Shut
  refine hSm.mono ?_
  rintro e w5 ⟨⟨g, rfl, hg⟩, hb45⟩
  obtain rfl : g = q := by
    have := hqj.out
    rw [Bool.eq_iff_iff, hg, this]
  dsimp only
  have hb5 := hb4.trans (hb45.mono hb4.size)
  clear hSm hg hqj c0 c1 c2 c3 c4 c5 c6 c7 e0 e1 e2 e3 e4 e5 e6 e7
  go_wp2_with fail
  go_ret
  exact ⟨by simp, hb5⟩
theorem eapart_row {w : World} (c0 : Array Value) (x0 : TEntry) (h0 : REntry w.heap.size w (Value.cells (.agg c0)).toList x0) (c1 : Array Value) (x1 : TEntry) (h1 : REntry w.heap.size w (Value.cells (.agg c1)).toList x1) :
    Calls Try.prog 7 #[.agg c0, .agg c1] w fun e w' => e = .returned (.bool true) ∧ Below w.heap.size w w' := by
  obtain ⟨ao, cap, rfl, hs, hw, _⟩ := eagg h0
  obtain ⟨ao1, cap1, rfl, hs1, hw1, _⟩ := eagg h1
  exact eapart_walk _ _ _ _ _ _ _ hs hs1 hw hw1
end Go.Proofs.Ytcigbobihkkdiaa
/- Entry: the walk of EntryBack. -/
namespace Go.Proofs.Ytcigbobihkkdiaa
open Go.RowKit
set_option linter.unusedVariables false
set_option linter.unusedSimpArgs false

theorem entV_len (x : TEntry) : (entV x).1.length ≤ 65536 := by
  unfold entV
  split
  · simp
  · split
    · simp
    · exact encV_len (entI x)

set_option maxRecDepth 100000 in
set_option maxHeartbeats 2000000 in
theorem eback_walk (x : TEntry) (ao1 : Option Addr) (cap1 : Nat) (s : ByteArray) (w : World) (hx : SlA w.heap.size 7 (ROp w.heap.size) w ao1 cap1 x.fGraph.fOps) (hw1 : wfE x) (hs : s.size ≤ maxLen) :
    Calls Try.prog 5 #[.agg (encE x ao1 cap1), .string s] w fun e w' => e = .returned (.bool true) ∧ Below w.heap.size w w' := by
  have hback : (entV x).2 = 0 → edV (entV x).1 = (x, 0) := ent_back2 hw1
  have hl1 := entV_lt x
  have hln : (toB (entV x).1).size ≤ maxLen := by rw [toB_size]; exact Nat.le_trans (entV_len x) (by unfold maxLen; omega)
  have hD1 : (entV x).2 = 0 → ∀ u : World, Calls Try.prog 13 #[.string (toB (entV x).1)] u (EDecR u (x, 0)) := fun h u => by
    have := edecode_any (toB (entV x).1) u hln
    rw [txt_toB hl1, hback h] at this
    exact this
  obtain ⟨z0, z1, z2, z3, z5, z7, _⟩ := hw1
  have hE1 := fun (u : World) (hb : Below w.heap.size w u) => eencode_any x ao1 cap1 u w.heap.size hb.size (ops_imp hx hb) z0 z1 z2 z3 z5 z7
  have hS := fun (u : World) (hb : Below w.heap.size w u) => ops_imp hx hb
  have hD := fun (u : World) => edecode_any s u hs
  have hwy := edV_wfE (txtB_lt s) (decV_wf s hs)
  have hye : (edV (txtB s)).2 ≠ 0 → (edV (txtB s)).1 = zEnt := fun h => by rw [ed_err h]
  have hyo : (edV (txtB s)).2 = 0 → entV (edV (txtB s)).1 = (txtB s, 0) := fun h => ent_dec (txtB_lt s) h
  obtain ⟨⟨y, er⟩, hye0⟩ : ∃ t, t = edV (txtB s) := ⟨_, rfl⟩
  rw [← hye0] at hD hwy hye hyo
  dsimp only at hwy hye hyo
  obtain ⟨⟨S, E⟩, hSE⟩ : ∃ t, t = entV x := ⟨_, rfl⟩
  rw [← hSE] at hE1 hD1
  dsimp only at hE1 hD1
  obtain ⟨sb, hsb⟩ : ∃ t, t = toB S := ⟨_, rfl⟩
  rw [← hsb] at hE1 hD1
  obtain ⟨n1, hnn1⟩ : ∃ n, n = x.fGraph.fOps.length := ⟨_, rfl⟩
  unfold encE at hE1 ⊢
  rw [← hnn1] at hE1 ⊢
  clear hback hl1 hln hye0 hSE hsb z0 z1 z2 z3 z5 z7 hx
  replace hE1 := Lib.hid hE1
  replace hD1 := Lib.hid hD1
  replace hS := Lib.hid hS
  replace hD := Lib.hid hD
  replace hwy := Lib.hid hwy
  replace hye := Lib.hid hye
  replace hyo := Lib.hid hyo
  replace hnn1 := Lib.hid hnn1
  go_enter Try.func5, Try.ntmps5
  go_upto_region 1 with fail
  refine Code.wp_world ?_
  intro w1 hww1
  have hb1 : Below w.heap.size w w1 := by rw [hww1]; exact below_alloc1 w _
  have hL : Blk w1 w.heap.size #[.int .i64 x.fKind, .int .i64 x.fRec.fProducer, .int .i64 x.fRec.fSeq, .int .i64 x.fRec.fPart, .string x.fRec.fKey, .int .u32 x.fRec.fVal, .slice ao1 n1 cap1, .int .i64 x.fN] 29 := by rw [hww1]; exact Blk.new _ _ _
  obtain ⟨la, hla⟩ : ∃ c, c = w.heap.size := ⟨_, rfl⟩
  rw [← hla] at hL
  rw [← hla]
  clear hww1
  replace hla := Lib.hid hla
  have hK := eknown_any w1
  go_wp2_with (go_at_call 10; refine Shut.out ?k1)
  unfold Shut
  refine hK.mono ?_
  rintro e w2 ⟨rfl, hb12⟩
  dsimp only
  have hb2 := hb1.trans (hb12.mono hb1.size)
  replace hL := hL.below hb12 hL.lt
  have hEa := hE1.out w2 hb2
  clear hK hE1
  obtain ⟨c0, c1, c2, c3, c4, c5, c6, c7⟩ := blk8 hL
  go_wp2_with (go_at_call 8; refine Shut.out ?k2)
  unfold Shut
  refine hEa.mono ?_
  rintro e w3 ⟨rfl, hb23⟩
  dsimp only
  have hb3 := hb2.trans (hb23.mono hb2.size)
  replace hL := hL.below hb23 hL.lt
  clear hEa c0 c1 c2 c3 c4 c5 c6 c7 hb12 hb23
  by_cases hE0 : E = 0
  case neg =>
    have d1 : ((E : Int) == 0) = false := by simpa using hE0
    clear hD1 hS hL
    obtain ⟨wr, rfl⟩ : ∃ x, x = w3 := ⟨_, rfl⟩
    have hbr := hb3
    have hDs := hD.out wr
    go_wp2_with (go_at_call 13; refine Shut.out ?a1)
    unfold Shut
    refine hDs.mono ?_
    rintro e wd ⟨hbd, v, ps, rfl, hops, hpm⟩
    dsimp only at hpm ⊢
    obtain ⟨ao2, cap2, rfl, hsl2, _⟩ := hops.encE hpm
    clear hDs hD hops hpm
    replace hbd := hbr.trans (hbd.mono hbr.size)
    obtain ⟨n2, hn2⟩ : ∃ n, n = y.fGraph.fOps.length := ⟨_, rfl⟩
    unfold encV8
    try dsimp only
    rw [← hn2]
    replace hn2 := Lib.hid hn2
    by_cases hEr : er = 0
    case neg =>
      have hr1 : ((er : Int) != 0) = true := by simpa using hEr
      have hr2 : ((er : Int) == 0) = false := by simpa using hEr
      skip
      go_upto_region 9 with fail
      refine Code.wp_world ?_
      intro wf hwf
      obtain ⟨lb, hlb⟩ : ∃ c, c = wd.heap.size := ⟨_, rfl⟩
      have hM : Blk wf lb #[.int .i64 y.fKind, .int .i64 y.fRec.fProducer, .int .i64 y.fRec.fSeq, .int .i64 y.fRec.fPart, .string y.fRec.fKey, .int .u32 y.fRec.fVal, .slice ao2 n2 cap2, .int .i64 y.fN] 29 := by rw [hwf, hlb]; exact Blk.new _ _ _
      have hbdf : Below wd.heap.size wd wf := by rw [hwf]; exact below_alloc1 _ _
      rw [← hlb]
      clear hwf
      replace hlb := Lib.hid hlb
      have hbf := hbd.trans (hbdf.mono hbd.size)
      have hSm := esame_any wf.heap.size y zEnt ao2 none cap2 0 wf (Nat.le_refl _) (hsl2.imp (hbdf) hbdf.size (fun _ _ _ h => h.imp hbdf hbdf.size)) (SlA.nil _ _ _ _)
      unfold encE at hSm
      rw [← hn2.out] at hSm
      obtain ⟨e0, e1, e2, e3, e4, e5, e6, e7⟩ := blk8 hM
      go_wp2_with (go_at_call 15; refine Shut.out ?a2)
      unfold Shut
      refine hSm.mono ?_
      rintro e wg ⟨⟨g, rfl, hg⟩, hbg⟩
      obtain rfl : g = true := hg.2 (hye.out hEr)
      dsimp only
      replace hbg := hbf.trans (hbg.mono hbf.size)
      clear hSm hg e0 e1 e2 e3 e4 e5 e6 e7
      go_wp2_with fail
      go_ret
      exact ⟨by simp, hbg⟩
    subst hEr
    have hyv := hyo.out rfl
    have hEy := eencode_any y ao2 cap2
    go_upto_region 9 with fail
    refine Code.wp_world ?_
    intro wf hwf
    obtain ⟨lb, hlb⟩ : ∃ c, c = wd.heap.size := ⟨_, rfl⟩
    have hM : Blk wf lb #[.int .i64 y.fKind, .int .i64 y.fRec.fProducer, .int .i64 y.fRec.fSeq, .int .i64 y.fRec.fPart, .string y.fRec.fKey, .int .u32 y.fRec.fVal, .slice ao2 n2 cap2, .int .i64 y.fN] 29 := by rw [hwf, hlb]; exact Blk.new _ _ _
    have hbdf : Below wd.heap.size wd wf := by rw [hwf]; exact below_alloc1 _ _
    rw [← hlb]
    clear hwf
    replace hlb := Lib.hid hlb
    have hbf := hbd.trans (hbdf.mono hbd.size)
    obtain ⟨y0, y1, y2, y3, y5, y7, _⟩ := hwy.out
    have hEs := eencode_any y ao2 cap2 wf wf.heap.size (Nat.le_refl _) (hsl2.imp (hbdf) hbdf.size (fun _ _ _ h => h.imp hbdf hbdf.size)) y0 y1 y2 y3 y5 y7
    rw [hyv] at hEs
    dsimp only at hEs
    rw [toB_txt] at hEs
    unfold encE at hEs
    rw [← hn2.out] at hEs
    obtain ⟨e0, e1, e2, e3, e4, e5, e6, e7⟩ := blk8 hM
    rw [show ((0 : Nat) : Int) = 0 from rfl] at hEs ⊢
    clear hEy hyv y0 y1 y2 y3 y5 y7
    go_wp2_with (go_at_call 8; refine Shut.out ?a3)
    unfold Shut
    refine hEs.mono ?_
    rintro e wg ⟨rfl, hbg⟩
    dsimp only
    replace hbg := hbf.trans (hbg.mono hbf.size)
    clear hEs e0 e1 e2 e3 e4 e5 e6 e7
    go_wp2_with fail
    go_ret
    exact ⟨by simp, hbg⟩
  subst hE0
  rw [show ((0 : Nat) : Int) = 0 from rfl]
  have hDa := hD1.out rfl w3
  clear hD1
  go_wp2_with (go_at_call 13; refine Shut.out ?k3)
  unfold Shut
  refine hDa.mono ?_
  rintro e w4 ⟨hb34, v, ps, rfl, hops, hpm⟩
  dsimp only at hpm ⊢
  obtain ⟨ao3, cap3, rfl, hsl3, _⟩ := hops.encE hpm
  clear hDa hops hpm
  have hb4 := hb3.trans (hb34.mono hb3.size)
  replace hL := hL.below hb34 hL.lt
  unfold encV8
  try dsimp only
  rw [← hnn1.out]
  rw [show ((0 : Nat) : Int) = 0 from rfl]
  go_upto_region 6 with fail
  refine Code.wp_world ?_
  intro w5 hww5
  obtain ⟨lc, hlc⟩ : ∃ c, c = w4.heap.size := ⟨_, rfl⟩
  have hM1 : Blk w5 lc #[.int .i64 x.fKind, .int .i64 x.fRec.fProducer, .int .i64 x.fRec.fSeq, .int .i64 x.fRec.fPart, .string x.fRec.fKey, .int .u32 x.fRec.fVal, .slice ao3 n1 cap3, .int .i64 x.fN] 29 := by rw [hww5, hlc]; exact Blk.new _ _ _
  have hb45 : Below w4.heap.size w4 w5 := by rw [hww5]; exact below_alloc1 _ _
  rw [← hlc]
  clear hww5
  replace hlc := Lib.hid hlc
  have hb5 := hb4.trans (hb45.mono hb4.size)
  replace hL := hL.below hb45 hL.lt
  have hSa := hS.out w5 hb5
  have hSm := esame_any w5.heap.size x x ao1 ao3 cap1 cap3 w5 (Nat.le_refl _) (hSa.imp (Below.refl _ _) hb5.size (fun _ _ _ h => h.imp (Below.refl _ _) hb5.size)) (hsl3.imp hb45 hb45.size (fun _ _ _ h => h.imp hb45 hb45.size))
  unfold encE at hSm
  rw [← hnn1.out] at hSm
  clear hS hSa
  obtain ⟨c0, c1, c2, c3, c4, c5, c6, c7⟩ := blk8 hL
  obtain ⟨e0, e1, e2, e3, e4, e5, e6, e7⟩ := blk8 hM1
  go_wp2_with (go_at_call 15; refine Shut.out ?k4)
  unfold Shut
  refine hSm.mono ?_
  rintro e wr ⟨⟨g, rfl, hg⟩, hb5r⟩
  obtain rfl : g = true := hg.2 (by trivial)
  dsimp only
  have hbr := hb5.trans (hb5r.mono hb5.size)
  clear hSm hg c0 c1 c2 c3 c4 c5 c6 c7 e0 e1 e2 e3 e4 e5 e6 e7 hL hM1
  have hDs := hD.out wr
  go_wp2_with (go_at_call 13; refine Shut.out ?b1)
  unfold Shut
  refine hDs.mono ?_
  rintro e wd ⟨hbd, v, ps, rfl, hops, hpm⟩
  dsimp only at hpm ⊢
  obtain ⟨ao2, cap2, rfl, hsl2, _⟩ := hops.encE hpm
  clear hDs hD hops hpm
  replace hbd := hbr.trans (hbd.mono hbr.size)
  obtain ⟨n2, hn2⟩ : ∃ n, n = y.fGraph.fOps.length := ⟨_, rfl⟩
  unfold encV8
  try dsimp only
  rw [← hn2]
  replace hn2 := Lib.hid hn2
  by_cases hEr : er = 0
  case neg =>
    have hr1 : ((er : Int) != 0) = true := by simpa using hEr
    have hr2 : ((er : Int) == 0) = false := by simpa using hEr
    skip
    go_upto_region 9 with fail
    refine Code.wp_world ?_
    intro wf hwf
    obtain ⟨lb, hlb⟩ : ∃ c, c = wd.heap.size := ⟨_, rfl⟩
    have hM : Blk wf lb #[.int .i64 y.fKind, .int .i64 y.fRec.fProducer, .int .i64 y.fRec.fSeq, .int .i64 y.fRec.fPart, .string y.fRec.fKey, .int .u32 y.fRec.fVal, .slice ao2 n2 cap2, .int .i64 y.fN] 29 := by rw [hwf, hlb]; exact Blk.new _ _ _
    have hbdf : Below wd.heap.size wd wf := by rw [hwf]; exact below_alloc1 _ _
    rw [← hlb]
    clear hwf
    replace hlb := Lib.hid hlb
    have hbf := hbd.trans (hbdf.mono hbd.size)
    have hSm := esame_any wf.heap.size y zEnt ao2 none cap2 0 wf (Nat.le_refl _) (hsl2.imp (hbdf) hbdf.size (fun _ _ _ h => h.imp hbdf hbdf.size)) (SlA.nil _ _ _ _)
    unfold encE at hSm
    rw [← hn2.out] at hSm
    obtain ⟨e0, e1, e2, e3, e4, e5, e6, e7⟩ := blk8 hM
    go_wp2_with (go_at_call 15; refine Shut.out ?b2)
    unfold Shut
    refine hSm.mono ?_
    rintro e wg ⟨⟨g, rfl, hg⟩, hbg⟩
    obtain rfl : g = true := hg.2 (hye.out hEr)
    dsimp only
    replace hbg := hbf.trans (hbg.mono hbf.size)
    clear hSm hg e0 e1 e2 e3 e4 e5 e6 e7
    go_wp2_with fail
    go_ret
    exact ⟨by simp, hbg⟩
  subst hEr
  have hyv := hyo.out rfl
  have hEy := eencode_any y ao2 cap2
  go_upto_region 9 with fail
  refine Code.wp_world ?_
  intro wf hwf
  obtain ⟨lb, hlb⟩ : ∃ c, c = wd.heap.size := ⟨_, rfl⟩
  have hM : Blk wf lb #[.int .i64 y.fKind, .int .i64 y.fRec.fProducer, .int .i64 y.fRec.fSeq, .int .i64 y.fRec.fPart, .string y.fRec.fKey, .int .u32 y.fRec.fVal, .slice ao2 n2 cap2, .int .i64 y.fN] 29 := by rw [hwf, hlb]; exact Blk.new _ _ _
  have hbdf : Below wd.heap.size wd wf := by rw [hwf]; exact below_alloc1 _ _
  rw [← hlb]
  clear hwf
  replace hlb := Lib.hid hlb
  have hbf := hbd.trans (hbdf.mono hbd.size)
  obtain ⟨y0, y1, y2, y3, y5, y7, _⟩ := hwy.out
  have hEs := eencode_any y ao2 cap2 wf wf.heap.size (Nat.le_refl _) (hsl2.imp (hbdf) hbdf.size (fun _ _ _ h => h.imp hbdf hbdf.size)) y0 y1 y2 y3 y5 y7
  rw [hyv] at hEs
  dsimp only at hEs
  rw [toB_txt] at hEs
  unfold encE at hEs
  rw [← hn2.out] at hEs
  obtain ⟨e0, e1, e2, e3, e4, e5, e6, e7⟩ := blk8 hM
  rw [show ((0 : Nat) : Int) = 0 from rfl] at hEs ⊢
  clear hEy hyv y0 y1 y2 y3 y5 y7
  go_wp2_with (go_at_call 8; refine Shut.out ?b3)
  unfold Shut
  refine hEs.mono ?_
  rintro e wg ⟨rfl, hbg⟩
  dsimp only
  replace hbg := hbf.trans (hbg.mono hbf.size)
  clear hEs e0 e1 e2 e3 e4 e5 e6 e7
  go_wp2_with fail
  go_ret
  exact ⟨by simp, hbg⟩
theorem eback_row {w : World} (c0 : Array Value) (x0 : TEntry) (h0 : REntry w.heap.size w (Value.cells (.agg c0)).toList x0) (a1 : ByteArray) (h1 : a1.size ≤ maxLen) :
    Calls Try.prog 5 #[.agg c0, .string a1] w fun e w' => e = .returned (.bool true) ∧ Below w.heap.size w w' := by
  obtain ⟨ao, cap, rfl, hs, hw, _⟩ := eagg h0
  exact eback_walk _ _ _ _ _ hs hw h1
end Go.Proofs.Ytcigbobihkkdiaa
