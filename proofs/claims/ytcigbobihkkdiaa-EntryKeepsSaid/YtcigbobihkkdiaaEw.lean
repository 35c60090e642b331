import Derived.Test.YtcigbobihkkdiaaEz
import Derived.SizedLaws
/- Entry: the walks of EntryApart, EntryBack. -/
namespace Go.Proofs.Ytcigbobihkkdiaa
open Go.RowKit
set_option linter.unusedVariables false
set_option linter.unusedSimpArgs false

theorem eagg {B : Nat} {w : World} {c : Array Value} {x : TEntry} (h : REntry B w (Value.cells (.agg c)).toList x) : ∃ ao cap, c = encE x ao cap ∧ SlA B 7 (ROp B) w ao cap x.fGraph.fOps ∧ wfE x ∧ x.fRec.fKey.size ≤ maxLen := by
  obtain ⟨ao, cap, hc, z0, z1, z2, z3, z4, z5, hs, z7⟩ := h
  have hc' : c.toList = [.int .i64 x.fKind, .int .i64 x.fRec.fProducer, .int .i64 x.fRec.fSeq, .int .i64 x.fRec.fPart, .string x.fRec.fKey, .int .u32 x.fRec.fVal, .slice ao x.fGraph.fOps.length cap, .int .i64 x.fN] := hc
  refine ⟨ao, cap, by unfold encE; rw [← hc'], hs, ⟨z0, z1, z2, z3, z5, z7, ?_⟩, z4⟩
  intro o ho
  obtain ⟨i, hi, rfl⟩ := List.mem_iff_getElem.1 ho
  obtain ⟨b, off, rfl, hb, h7⟩ := hs.addr (by omega)
  obtain ⟨cs', _, _, ao1, cap1, _, w0, w1, w2, w3, w4, w5, w6⟩ := h7 i hi
  refine ⟨w0, ?_, w2, w3, w4, w5, w6⟩
  intro n hn
  obtain ⟨j, hj, rfl⟩ := List.mem_iff_getElem.1 hn
  obtain ⟨b1, off1, rfl, hb1, h8⟩ := w1.addr (by omega)
  obtain ⟨cs2, _, _, _, hw⟩ := h8 j hj
  exact hw
theorem entV_err {x : TEntry} (h : (entV x).2 ≠ 0) : (entV x).1 = [] := by
  unfold entV at h ⊢
  split
  · rfl
  · rename_i h1
    rw [if_neg h1] at h
    split
    · rfl
    · rename_i h2
      rw [if_neg h2] at h
      dsimp only at h ⊢
      unfold encV at h ⊢
      split
      · rfl
      · rename_i h3
        rw [if_neg h3] at h
        split
        · rfl
        · rename_i h4
          rw [if_neg h4] at h
          exact absurd rfl h
theorem ent_back2 {x : TEntry} (hw : wfE x) (h : (entV x).2 = 0) : edV (entV x).1 = (x, 0) := by
  by_cases h0 : x.fKind = 0
  · have hg : goodB x = true := by
      unfold entV at h
      by_cases hg : goodB x = false
      · rw [if_pos hg] at h; cases h
      · simpa using hg
    have hv : (entV x).1 = [] := by rw [entV, if_neg (by rw [hg]; simp), if_pos h0]
    rw [hv]
    unfold goodB at hg
    obtain ⟨⟨p1, p2, p3, p4, p5, p6, p7⟩, hins, hr⟩ := of_decide_eq_true hg
    have hrec := bare_rec (p5.resolve_left (by omega))
    have hops := List.length_eq_zero_iff.1 (p6.resolve_left (by omega))
    have hn := p7 (.inl h0)
    have hx : x = zEnt := ent_eq.2 ⟨h0, hn, hrec, hops⟩
    rw [hx]
    rfl
  · exact ent_back hw h h0
theorem edV_wfE {s : List Nat} (hb : ∀ x ∈ s, x < 256) (hl : wfL (decV s).2) : wfE (edV s).1 := by
  have hz : wfE zEnt := ⟨rfl, rfl, rfl, rfl, rfl, rfl, by simp [zEnt]⟩
  rw [← dec_law hb hl]
  unfold rdV
  split
  · exact hz
  · split
    · exact hz
    · split
      · exact gE_wfE hl
      · exact hz
theorem entV_lt (x : TEntry) : ∀ b ∈ (entV x).1, b < 256 := by
  unfold entV
  split
  · simp
  · split
    · simp
    · exact encV_lt (entI x)

set_option maxRecDepth 100000 in
set_option maxHeartbeats 2000000 in
theorem eapart_walk (x y : TEntry) (ao1 ao2 : Option Addr) (cap1 cap2 : Nat) (w : World) (hx : SlA w.heap.size 7 (ROp w.heap.size) w ao1 cap1 x.fGraph.fOps) (hy : SlA w.heap.size 7 (ROp w.heap.size) w ao2 cap2 y.fGraph.fOps) (hw1 : wfE x) (hw2 : wfE y) :
    Calls Try.prog 7 #[.agg (encE x ao1 cap1), .agg (encE y ao2 cap2)] w fun e w' => e = .returned (.bool true) ∧ Below w.heap.size w w' := by
  have hinj : (entV x).2 = 0 → (entV y).2 = 0 → ((entV x).1 = (entV y).1 ↔ x = y) := by
    intro h1 h2
    constructor
    · intro h
      have a1 := ent_back2 hw1 h1
      have a2 := ent_back2 hw2 h2
      rw [h, a2] at a1
      simpa using a1.symm
    · rintro rfl; rfl
  have he1 := @entV_err x
  have he2 := @entV_err y
  have hl1 := entV_lt x
  have hl2 := entV_lt y
  obtain ⟨z0, z1, z2, z3, z5, z7, _⟩ := hw1
  obtain ⟨y0, y1, y2, y3, y5, y7, _⟩ := hw2
  have hE1 := fun (u : World) (hb : Below w.heap.size w u) => eencode_any x ao1 cap1 u w.heap.size hb.size (ops_imp hx hb) z0 z1 z2 z3 z5 z7
  have hE2 := fun (u : World) (hb : Below w.heap.size w u) => eencode_any y ao2 cap2 u w.heap.size hb.size (ops_imp hy hb) y0 y1 y2 y3 y5 y7
  have hS := fun (u : World) (hb : Below w.heap.size w u) => esame_any w.heap.size x y ao1 ao2 cap1 cap2 u hb.size (ops_imp hx hb) (ops_imp hy hb)
  obtain ⟨⟨S, E⟩, hSE⟩ : ∃ t, t = entV x := ⟨_, rfl⟩
  obtain ⟨⟨T, F⟩, hTF⟩ : ∃ t, t = entV y := ⟨_, rfl⟩
  rw [← hSE] at hE1 hinj he1 hl1
  rw [← hTF] at hE2 hinj he2 hl2
  dsimp only at hE1 hE2 hinj he1 he2 hl1 hl2
  obtain ⟨XY, hXY⟩ : ∃ p : Prop, p = (x = y) := ⟨_, rfl⟩
  rw [← hXY] at hinj hS
  clear hSE hTF hXY hx hy
  have hcmp : ((toB S).toList == (toB T).toList) = decide (S = T) := by
    have := toB_eq hl1 hl2
    by_cases hb : S = T
    · rw [this.2 hb, decide_eq_true hb]
    · rw [decide_eq_false hb]
      cases hcc : (toB S).toList == (toB T).toList with
      | false => rfl
      | true => exact absurd (this.1 hcc) hb
  have hn1 : E ≠ 0 → (toB S) = ⟨#[]⟩ := fun h => by rw [he1 h]; rfl
  have hn2 : F ≠ 0 → (toB T) = ⟨#[]⟩ := fun h => by rw [he2 h]; rfl
  obtain ⟨q, hq⟩ : ∃ q, q = decide (S = T) := ⟨_, rfl⟩
  have hqi : E = 0 → F = 0 → (q = true ↔ XY) := fun h1 h2 => by rw [hq, decide_eq_true_eq]; exact hinj h1 h2
  rw [← hq] at hcmp
  obtain ⟨sb, hsb⟩ : ∃ t, t = toB S := ⟨_, rfl⟩
  obtain ⟨tb, htb⟩ : ∃ t, t = toB T := ⟨_, rfl⟩
  rw [← hsb] at hE1 hcmp hn1
  rw [← htb] at hE2 hcmp hn2
  obtain ⟨n1, hnn1⟩ : ∃ n, n = x.fGraph.fOps.length := ⟨_, rfl⟩
  obtain ⟨n2, hnn2⟩ : ∃ n, n = y.fGraph.fOps.length := ⟨_, rfl⟩
  unfold encE at hE1 hE2 hS ⊢
  rw [← hnn1] at hE1 hS ⊢
  rw [← hnn2] at hE2 hS ⊢
  clear hsb htb hq hinj he1 he2 hl1 hl2 hnn1 hnn2
  replace hE1 := Lib.hid hE1
  replace hE2 := Lib.hid hE2
  replace hS := Lib.hid hS
  replace hqi := Lib.hid hqi
  replace hn1 := Lib.hid hn1
  replace hn2 := Lib.hid hn2
  replace hcmp := Lib.hid hcmp
  go_enter Try.func7, Try.ntmps7
  go_upto_region 1 with fail
  refine Code.wp_world ?_
  intro w1 hw1
  have hb1 : Below w.heap.size w w1 := by rw [hw1]; exact below_alloc2 w _ _
  have hL : Blk w1 w.heap.size #[.int .i64 x.fKind, .int .i64 x.fRec.fProducer, .int .i64 x.fRec.fSeq, .int .i64 x.fRec.fPart, .string x.fRec.fKey, .int .u32 x.fRec.fVal, .slice ao1 n1 cap1, .int .i64 x.fN] 29 := by rw [hw1]; exact (Blk.new _ _ _).alloc _
  have hM : Blk w1 (w.heap.size + 1) #[.int .i64 y.fKind, .int .i64 y.fRec.fProducer, .int .i64 y.fRec.fSeq, .int .i64 y.fRec.fPart, .string y.fRec.fKey, .int .u32 y.fRec.fVal, .slice ao2 n2 cap2, .int .i64 y.fN] 29 := by rw [hw1]; exact blk_new1 _ _ _ _
  obtain ⟨la, hla⟩ : ∃ c, c = w.heap.size := ⟨_, rfl⟩
  obtain ⟨lb, hlb⟩ : ∃ c, c = w.heap.size + 1 := ⟨_, rfl⟩
  rw [← hlb] at hM
  rw [← hla] at hL
  rw [← hlb, ← hla]
  clear hw1
  replace hla := Lib.hid hla
  replace hlb := Lib.hid hlb
  have hEa := hE1.out w1 hb1
  obtain ⟨c0, c1, c2, c3, c4, c5, c6, c7⟩ := blk8 hL
  go_wp2_with (go_at_call 8; refine Shut.out ?k1)
  unfold Shut
  refine hEa.mono ?_
  rintro e w2 ⟨rfl, hb12⟩
  dsimp only
  have hb2 := hb1.trans (hb12.mono hb1.size)
  replace hL := hL.below hb12 hL.lt
  replace hM := hM.below hb12 hM.lt
  have hEb := hE2.out w2 hb2
  clear hEa hE1 hE2 c0 c1 c2 c3 c4 c5 c6 c7 hb12
  obtain ⟨c0, c1, c2, c3, c4, c5, c6, c7⟩ := blk8 hM
  go_wp2_with (go_at_call 8; refine Shut.out ?k2)
  unfold Shut
  refine hEb.mono ?_
  rintro e w3 ⟨rfl, hb23⟩
  dsimp only
  have hb3 := hb2.trans (hb23.mono hb2.size)
  replace hL := hL.below hb23 hL.lt
  replace hM := hM.below hb23 hM.lt
  clear hEb c0 c1 c2 c3 c4 c5 c6 c7 hb23
  have hK := eknown_any w3
  by_cases hE0 : E = 0
  case neg =>
    have hs0 := hn1.out hE0
    subst hs0
    have d1 : ((E : Int) != 0) = true := by simpa using hE0
    have d1' : ((E : Int) == 0) = false := by simpa using hE0
    clear hcmp hqi hS
    go_wp2_with (go_at_call 10; refine Shut.out ?k3)
    unfold Shut
    refine hK.mono ?_
    rintro e w4 ⟨rfl, hb34⟩
    dsimp only
    have hb4 := hb3.trans (hb34.mono hb3.size)
    clear hK hL hM
    by_cases hF0 : F = 0
    · subst hF0
      go_wp2_with fail
      go_ret
      exact ⟨rfl, hb4⟩
    · have ht0 := hn2.out hF0
      subst ht0
      have d2' : ((F : Int) == 0) = false := by simpa using hF0
      go_wp2_with fail
      go_ret
      exact ⟨rfl, hb4⟩
  subst hE0
  by_cases hF0 : F = 0
  case neg =>
    have ht0 := hn2.out hF0
    subst ht0
    have d1 : ((F : Int) != 0) = true := by simpa using hF0
    have d1' : ((F : Int) == 0) = false := by simpa using hF0
    clear hcmp hqi hS
    rw [show ((0 : Nat) : Int) = 0 from rfl]
    go_wp2_with (go_at_call 10; refine Shut.out ?k4)
    unfold Shut
    refine hK.mono ?_
    rintro e w4 ⟨rfl, hb34⟩
    dsimp only
    have hb4 := hb3.trans (hb34.mono hb3.size)
    clear hK hL hM
    go_wp2_with fail
    go_ret
    exact ⟨rfl, hb4⟩
  subst hF0
  have hqj : q = true ↔ XY := hqi.out rfl rfl
  clear hqi
  replace hqj := Lib.hid hqj
  rw [show ((0 : Nat) : Int) = 0 from rfl]
  go_wp2_with (go_at_call 10; refine Shut.out ?k5)
  unfold Shut
  refine hK.mono ?_
  rintro e w4 ⟨rfl, hb34⟩
  dsimp only
  have hb4 := hb3.trans (hb34.mono hb3.size)
  replace hL := hL.below hb34 hL.lt
  replace hM := hM.below hb34 hM.lt
  obtain ⟨c0, c1, c2, c3, c4, c5, c6, c7⟩ := blk8 hL
  obtain ⟨e0, e1, e2, e3, e4, e5, e6, e7⟩ := blk8 hM
  have hSm := hS.out w4 hb4
  have hcm := hcmp.out
  clear hK hS hL hM hcmp
  go_wp2_with (go_at_call 15; refine Shut.out ?k6)
  unfold Shut
  refine hSm.mono ?_
  rintro e w5 ⟨⟨g, rfl, hg⟩, hb45⟩
  obtain rfl : g = q := by
    have := hqj.out
    rw [Bool.eq_iff_iff, hg, this]
  dsimp only
  have hb5 := hb4.trans (hb45.mono hb4.size)
  clear hSm hg hqj c0 c1 c2 c3 c4 c5 c6 c7 e0 e1 e2 e3 e4 e5 e6 e7
  go_wp2_with fail
  go_ret
  exact ⟨by simp, hb5⟩
theorem eapart_row {w : World} (c0 : Array Value) (x0 : TEntry) (h0 : REntry w.heap.size w (Value.cells (.agg c0)).toList x0) (c1 : Array Value) (x1 : TEntry) (h1 : REntry w.heap.size w (Value.cells (.agg c1)).toList x1) :
    Calls Try.prog 7 #[.agg c0, .agg c1] w fun e w' => e = .returned (.bool true) ∧ Below w.heap.size w w' := by
  obtain ⟨ao, cap, rfl, hs, hw, _⟩ := eagg h0
  obtain ⟨ao1, cap1, rfl, hs1, hw1, _⟩ := eagg h1
  exact eapart_walk _ _ _ _ _ _ _ hs hs1 hw hw1
end Go.Proofs.Ytcigbobihkkdiaa
/- Entry: the walk of EntryBack. -/
namespace Go.Proofs.Ytcigbobihkkdiaa
open Go.RowKit
set_option linter.unusedVariables false
set_option linter.unusedSimpArgs false

theorem entV_len (x : TEntry) : (entV x).1.length ≤ 65536 := by
  unfold entV
  split
  · simp
  · split
    · simp
    · exact encV_len (entI x)

set_option maxRecDepth 100000 in
set_option maxHeartbeats 2000000 in
theorem eback_walk (x : TEntry) (ao1 : Option Addr) (cap1 : Nat) (s : ByteArray) (w : World) (hx : SlA w.heap.size 7 (ROp w.heap.size) w ao1 cap1 x.fGraph.fOps) (hw1 : wfE x) (hs : s.size ≤ maxLen) :
    Calls Try.prog 5 #[.agg (encE x ao1 cap1), .string s] w fun e w' => e = .returned (.bool true) ∧ Below w.heap.size w w' := by
  have hback : (entV x).2 = 0 → edV (entV x).1 = (x, 0) := ent_back2 hw1
  have hl1 := entV_lt x
  have hln : (toB (entV x).1).size ≤ maxLen := by rw [toB_size]; exact Nat.le_trans (entV_len x) (by unfold maxLen; omega)
  have hD1 : (entV x).2 = 0 → ∀ u : World, Calls Try.prog 13 #[.string (toB (entV x).1)] u (EDecR u (x, 0)) := fun h u => by
    have := edecode_any (toB (entV x).1) u hln
    rw [txt_toB hl1, hback h] at this
    exact this
  obtain ⟨z0, z1, z2, z3, z5, z7, _⟩ := hw1
  have hE1 := fun (u : World) (hb : Below w.heap.size w u) => eencode_any x ao1 cap1 u w.heap.size hb.size (ops_imp hx hb) z0 z1 z2 z3 z5 z7
  have hS := fun (u : World) (hb : Below w.heap.size w u) => ops_imp hx hb
  have hD := fun (u : World) => edecode_any s u hs
  have hwy := edV_wfE (txtB_lt s) (decV_wf s hs)
  have hye : (edV (txtB s)).2 ≠ 0 → (edV (txtB s)).1 = zEnt := fun h => by rw [ed_err h]
  have hyo : (edV (txtB s)).2 = 0 → entV (edV (txtB s)).1 = (txtB s, 0) := fun h => ent_dec (txtB_lt s) h
  obtain ⟨⟨y, er⟩, hye0⟩ : ∃ t, t = edV (txtB s) := ⟨_, rfl⟩
  rw [← hye0] at hD hwy hye hyo
  dsimp only at hwy hye hyo
  obtain ⟨⟨S, E⟩, hSE⟩ : ∃ t, t = entV x := ⟨_, rfl⟩
  rw [← hSE] at hE1 hD1
  dsimp only at hE1 hD1
  obtain ⟨sb, hsb⟩ : ∃ t, t = toB S := ⟨_, rfl⟩
  rw [← hsb] at hE1 hD1
  obtain ⟨n1, hnn1⟩ : ∃ n, n = x.fGraph.fOps.length := ⟨_, rfl⟩
  unfold encE at hE1 ⊢
  rw [← hnn1] at hE1 ⊢
  clear hback hl1 hln hye0 hSE hsb z0 z1 z2 z3 z5 z7 hx
  replace hE1 := Lib.hid hE1
  replace hD1 := Lib.hid hD1
  replace hS := Lib.hid hS
  replace hD := Lib.hid hD
  replace hwy := Lib.hid hwy
  replace hye := Lib.hid hye
  replace hyo := Lib.hid hyo
  replace hnn1 := Lib.hid hnn1
  go_enter Try.func5, Try.ntmps5
  go_upto_region 1 with fail
  refine Code.wp_world ?_
  intro w1 hww1
  have hb1 : Below w.heap.size w w1 := by rw [hww1]; exact below_alloc1 w _
  have hL : Blk w1 w.heap.size #[.int .i64 x.fKind, .int .i64 x.fRec.fProducer, .int .i64 x.fRec.fSeq, .int .i64 x.fRec.fPart, .string x.fRec.fKey, .int .u32 x.fRec.fVal, .slice ao1 n1 cap1, .int .i64 x.fN] 29 := by rw [hww1]; exact Blk.new _ _ _
  obtain ⟨la, hla⟩ : ∃ c, c = w.heap.size := ⟨_, rfl⟩
  rw [← hla] at hL
  rw [← hla]
  clear hww1
  replace hla := Lib.hid hla
  have hK := eknown_any w1
  go_wp2_with (go_at_call 10; refine Shut.out ?k1)
  unfold Shut
  refine hK.mono ?_
  rintro e w2 ⟨rfl, hb12⟩
  dsimp only
  have hb2 := hb1.trans (hb12.mono hb1.size)
  replace hL := hL.below hb12 hL.lt
  have hEa := hE1.out w2 hb2
  clear hK hE1
  obtain ⟨c0, c1, c2, c3, c4, c5, c6, c7⟩ := blk8 hL
  go_wp2_with (go_at_call 8; refine Shut.out ?k2)
  unfold Shut
  refine hEa.mono ?_
  rintro e w3 ⟨rfl, hb23⟩
  dsimp only
  have hb3 := hb2.trans (hb23.mono hb2.size)
  replace hL := hL.below hb23 hL.lt
  clear hEa c0 c1 c2 c3 c4 c5 c6 c7 hb12 hb23
  by_cases hE0 : E = 0
  case neg =>
    have d1 : ((E : Int) == 0) = false := by simpa using hE0
    clear hD1 hS hL
    obtain ⟨wr, rfl⟩ : ∃ x, x = w3 := ⟨_, rfl⟩
    have hbr := hb3
    have hDs := hD.out wr
    go_wp2_with (go_at_call 13; refine Shut.out ?a1)
    unfold Shut
    refine hDs.mono ?_
    rintro e wd ⟨hbd, v, ps, rfl, hops, hpm⟩
    dsimp only at hpm ⊢
    obtain ⟨ao2, cap2, rfl, hsl2, _⟩ := hops.encE hpm
    clear hDs hD hops hpm
    replace hbd := hbr.trans (hbd.mono hbr.size)
    obtain ⟨n2, hn2⟩ : ∃ n, n = y.fGraph.fOps.length := ⟨_, rfl⟩
    unfold encV8
    try dsimp only
    rw [← hn2]
    replace hn2 := Lib.hid hn2
    by_cases hEr : er = 0
    case neg =>
      have hr1 : ((er : Int) != 0) = true := by simpa using hEr
      have hr2 : ((er : Int) == 0) = false := by simpa using hEr
      skip
      go_upto_region 9 with fail
      refine Code.wp_world ?_
      intro wf hwf
      obtain ⟨lb, hlb⟩ : ∃ c, c = wd.heap.size := ⟨_, rfl⟩
      have hM : Blk wf lb #[.int .i64 y.fKind, .int .i64 y.fRec.fProducer, .int .i64 y.fRec.fSeq, .int .i64 y.fRec.fPart, .string y.fRec.fKey, .int .u32 y.fRec.fVal, .slice ao2 n2 cap2, .int .i64 y.fN] 29 := by rw [hwf, hlb]; exact Blk.new _ _ _
      have hbdf : Below wd.heap.size wd wf := by rw [hwf]; exact below_alloc1 _ _
      rw [← hlb]
      clear hwf
      replace hlb := Lib.hid hlb
      have hbf := hbd.trans (hbdf.mono hbd.size)
      have hSm := esame_any wf.heap.size y zEnt ao2 none cap2 0 wf (Nat.le_refl _) (hsl2.imp (hbdf) hbdf.size (fun _ _ _ h => h.imp hbdf hbdf.size)) (SlA.nil _ _ _ _)
      unfold encE at hSm
      rw [← hn2.out] at hSm
      obtain ⟨e0, e1, e2, e3, e4, e5, e6, e7⟩ := blk8 hM
      go_wp2_with (go_at_call 15; refine Shut.out ?a2)
      unfold Shut
      refine hSm.mono ?_
      rintro e wg ⟨⟨g, rfl, hg⟩, hbg⟩
      obtain rfl : g = true := hg.2 (hye.out hEr)
      dsimp only
      replace hbg := hbf.trans (hbg.mono hbf.size)
      clear hSm hg e0 e1 e2 e3 e4 e5 e6 e7
      go_wp2_with fail
      go_ret
      exact ⟨by simp, hbg⟩
    subst hEr
    have hyv := hyo.out rfl
    have hEy := eencode_any y ao2 cap2
    go_upto_region 9 with fail
    refine Code.wp_world ?_
    intro wf hwf
    obtain ⟨lb, hlb⟩ : ∃ c, c = wd.heap.size := ⟨_, rfl⟩
    have hM : Blk wf lb #[.int .i64 y.fKind, .int .i64 y.fRec.fProducer, .int .i64 y.fRec.fSeq, .int .i64 y.fRec.fPart, .string y.fRec.fKey, .int .u32 y.fRec.fVal, .slice ao2 n2 cap2, .int .i64 y.fN] 29 := by rw [hwf, hlb]; exact Blk.new _ _ _
    have hbdf : Below wd.heap.size wd wf := by rw [hwf]; exact below_alloc1 _ _
    rw [← hlb]
    clear hwf
    replace hlb := Lib.hid hlb
    have hbf := hbd.trans (hbdf.mono hbd.size)
    obtain ⟨y0, y1, y2, y3, y5, y7, _⟩ := hwy.out
    have hEs := eencode_any y ao2 cap2 wf wf.heap.size (Nat.le_refl _) (hsl2.imp (hbdf) hbdf.size (fun _ _ _ h => h.imp hbdf hbdf.size)) y0 y1 y2 y3 y5 y7
    rw [hyv] at hEs
    dsimp only at hEs
    rw [toB_txt] at hEs
    unfold encE at hEs
    rw [← hn2.out] at hEs
    obtain ⟨e0, e1, e2, e3, e4, e5, e6, e7⟩ := blk8 hM
    rw [show ((0 : Nat) : Int) = 0 from rfl] at hEs ⊢
    clear hEy hyv y0 y1 y2 y3 y5 y7
    go_wp2_with (go_at_call 8; refine Shut.out ?a3)
    unfold Shut
    refine hEs.mono ?_
    rintro e wg ⟨rfl, hbg⟩
    dsimp only
    replace hbg := hbf.trans (hbg.mono hbf.size)
    clear hEs e0 e1 e2 e3 e4 e5 e6 e7
    go_wp2_with fail
    go_ret
    exact ⟨by simp, hbg⟩
  subst hE0
  rw [show ((0 : Nat) : Int) = 0 from rfl]
  have hDa := hD1.out rfl w3
  clear hD1
  go_wp2_with (go_at_call 13; refine Shut.out ?k3)
  unfold Shut
  refine hDa.mono ?_
  rintro e w4 ⟨hb34, v, ps, rfl, hops, hpm⟩
  dsimp only at hpm ⊢
  obtain ⟨ao3, cap3, rfl, hsl3, _⟩ := hops.encE hpm
  clear hDa hops hpm
  have hb4 := hb3.trans (hb34.mono hb3.size)
  replace hL := hL.below hb34 hL.lt
  unfold encV8
  try dsimp only
  rw [← hnn1.out]
  rw [show ((0 : Nat) : Int) = 0 from rfl]
  go_upto_region 6 with fail
  refine Code.wp_world ?_
  intro w5 hww5
  obtain ⟨lc, hlc⟩ : ∃ c, c = w4.heap.size := ⟨_, rfl⟩
  have hM1 : Blk w5 lc #[.int .i64 x.fKind, .int .i64 x.fRec.fProducer, .int .i64 x.fRec.fSeq, .int .i64 x.fRec.fPart, .string x.fRec.fKey, .int .u32 x.fRec.fVal, .slice ao3 n1 cap3, .int .i64 x.fN] 29 := by rw [hww5, hlc]; exact Blk.new _ _ _
  have hb45 : Below w4.heap.size w4 w5 := by rw [hww5]; exact below_alloc1 _ _
  rw [← hlc]
  clear hww5
  replace hlc := Lib.hid hlc
  have hb5 := hb4.trans (hb45.mono hb4.size)
  replace hL := hL.below hb45 hL.lt
  have hSa := hS.out w5 hb5
  have hSm := esame_any w5.heap.size x x ao1 ao3 cap1 cap3 w5 (Nat.le_refl _) (hSa.imp (Below.refl _ _) hb5.size (fun _ _ _ h => h.imp (Below.refl _ _) hb5.size)) (hsl3.imp hb45 hb45.size (fun _ _ _ h => h.imp hb45 hb45.size))
  unfold encE at hSm
  rw [← hnn1.out] at hSm
  clear hS hSa
  obtain ⟨c0, c1, c2, c3, c4, c5, c6, c7⟩ := blk8 hL
  obtain ⟨e0, e1, e2, e3, e4, e5, e6, e7⟩ := blk8 hM1
  go_wp2_with (go_at_call 15; refine Shut.out ?k4)
  unfold Shut
  refine hSm.mono ?_
  rintro e wr ⟨⟨g, rfl, hg⟩, hb5r⟩
  obtain rfl : g = true := hg.2 (by trivial)
  dsimp only
  have hbr := hb5.trans (hb5r.mono hb5.size)
  clear hSm hg c0 c1 c2 c3 c4 c5 c6 c7 e0 e1 e2 e3 e4 e5 e6 e7 hL hM1
  have hDs := hD.out wr
  go_wp2_with (go_at_call 13; refine Shut.out ?b1)
  unfold Shut
  refine hDs.mono ?_
  rintro e wd ⟨hbd, v, ps, rfl, hops, hpm⟩
  dsimp only at hpm ⊢
  obtain ⟨ao2, cap2, rfl, hsl2, _⟩ := hops.encE hpm
  clear hDs hD hops hpm
  replace hbd := hbr.trans (hbd.mono hbr.size)
  obtain ⟨n2, hn2⟩ : ∃ n, n = y.fGraph.fOps.length := ⟨_, rfl⟩
  unfold encV8
  try dsimp only
  rw [← hn2]
  replace hn2 := Lib.hid hn2
  by_cases hEr : er = 0
  case neg =>
    have hr1 : ((er : Int) != 0) = true := by simpa using hEr
    have hr2 : ((er : Int) == 0) = false := by simpa using hEr
    skip
    go_upto_region 9 with fail
    refine Code.wp_world ?_
    intro wf hwf
    obtain ⟨lb, hlb⟩ : ∃ c, c = wd.heap.size := ⟨_, rfl⟩
    have hM : Blk wf lb #[.int .i64 y.fKind, .int .i64 y.fRec.fProducer, .int .i64 y.fRec.fSeq, .int .i64 y.fRec.fPart, .string y.fRec.fKey, .int .u32 y.fRec.fVal, .slice ao2 n2 cap2, .int .i64 y.fN] 29 := by rw [hwf, hlb]; exact Blk.new _ _ _
    have hbdf : Below wd.heap.size wd wf := by rw [hwf]; exact below_alloc1 _ _
    rw [← hlb]
    clear hwf
    replace hlb := Lib.hid hlb
    have hbf := hbd.trans (hbdf.mono hbd.size)
    have hSm := esame_any wf.heap.size y zEnt ao2 none cap2 0 wf (Nat.le_refl _) (hsl2.imp (hbdf) hbdf.size (fun _ _ _ h => h.imp hbdf hbdf.size)) (SlA.nil _ _ _ _)
    unfold encE at hSm
    rw [← hn2.out] at hSm
    obtain ⟨e0, e1, e2, e3, e4, e5, e6, e7⟩ := blk8 hM
    go_wp2_with (go_at_call 15; refine Shut.out ?b2)
    unfold Shut
    refine hSm.mono ?_
    rintro e wg ⟨⟨g, rfl, hg⟩, hbg⟩
    obtain rfl : g = true := hg.2 (hye.out hEr)
    dsimp only
    replace hbg := hbf.trans (hbg.mono hbf.size)
    clear hSm hg e0 e1 e2 e3 e4 e5 e6 e7
    go_wp2_with fail
    go_ret
    exact ⟨by simp, hbg⟩
  subst hEr
  have hyv := hyo.out rfl
  have hEy := eencode_any y ao2 cap2
  go_upto_region 9 with fail
  refine Code.wp_world ?_
  intro wf hwf
  obtain ⟨lb, hlb⟩ : ∃ c, c = wd.heap.size := ⟨_, rfl⟩
  have hM : Blk wf lb #[.int .i64 y.fKind, .int .i64 y.fRec.fProducer, .int .i64 y.fRec.fSeq, .int .i64 y.fRec.fPart, .string y.fRec.fKey, .int .u32 y.fRec.fVal, .slice ao2 n2 cap2, .int .i64 y.fN] 29 := by rw [hwf, hlb]; exact Blk.new _ _ _
  have hbdf : Below wd.heap.size wd wf := by rw [hwf]; exact below_alloc1 _ _
  rw [← hlb]
  clear hwf
  replace hlb := Lib.hid hlb
  have hbf := hbd.trans (hbdf.mono hbd.size)
  obtain ⟨y0, y1, y2, y3, y5, y7, _⟩ := hwy.out
  have hEs := eencode_any y ao2 cap2 wf wf.heap.size (Nat.le_refl _) (hsl2.imp (hbdf) hbdf.size (fun _ _ _ h => h.imp hbdf hbdf.size)) y0 y1 y2 y3 y5 y7
  rw [hyv] at hEs
  dsimp only at hEs
  rw [toB_txt] at hEs
  unfold encE at hEs
  rw [← hn2.out] at hEs
  obtain ⟨e0, e1, e2, e3, e4, e5, e6, e7⟩ := blk8 hM
  rw [show ((0 : Nat) : Int) = 0 from rfl] at hEs ⊢
  clear hEy hyv y0 y1 y2 y3 y5 y7
  go_wp2_with (go_at_call 8; refine Shut.out ?b3)
  unfold Shut
  refine hEs.mono ?_
  rintro e wg ⟨rfl, hbg⟩
  dsimp only
  replace hbg := hbf.trans (hbg.mono hbf.size)
  clear hEs e0 e1 e2 e3 e4 e5 e6 e7
  go_wp2_with fail
  go_ret
  exact ⟨by simp, hbg⟩
theorem eback_row {w : World} (c0 : Array Value) (x0 : TEntry) (h0 : REntry w.heap.size w (Value.cells (.agg c0)).toList x0) (a1 : ByteArray) (h1 : a1.size ≤ maxLen) :
    Calls Try.prog 5 #[.agg c0, .string a1] w fun e w' => e = .returned (.bool true) ∧ Below w.heap.size w w' := by
  obtain ⟨ao, cap, rfl, hs, hw, _⟩ := eagg h0
  exact eback_walk _ _ _ _ _ hs hw h1
end Go.Proofs.Ytcigbobihkkdiaa

/- Sizes of nested slices out of a reading's weights. -/
namespace Go
open Go.RowKit Go.ChangeShapes Go.WideShapes
set_option linter.unusedVariables false
section
variable {H : Type} {enc : TypeId × Value → H} {P : Program} {w : World} {held : Bool} {t : TypeId} {fuel : Nat} {cs : List Value} {x : DataW H × List MemPlace}
theorem trod_len_sized {e : TypeId} {ao : Option Addr} {n cap : Nat} (hu : P.underlying t = some (.slice e)) (h : DataW.trod enc P w 0 (fun _ => true) held fuel t [.slice ao n cap] = some x) (hw : ∀ k ∈ x.1.weights P t, k ≤ reachBytes) : n * P.bytesOf e ≤ reachBytes := by
  rcases DataW.trod_slice hu h with ⟨h1, _⟩ | ⟨a, l', c', elems, rest, m, _, h1, h2, _, h3, _, h4, h5, _⟩
  · simp at h1
    obtain ⟨_, rfl, _⟩ := h1
    simp
  · simp at h1
    obtain ⟨rfl, rfl, rfl⟩ := h1
    have := hw ((elems.length + rest.length) * P.bytesOf e) (by rw [h2]; simp [DataW.weights, hu])
    rw [h4] at this
    exact Nat.le_trans (Nat.mul_le_mul_right _ (Nat.le_add_right _ _)) this
theorem part_sized {fs : Array Field} {parts : List (DataW H)} {j : Nat} {f : Field} {d : DataW H} (hu : P.underlying t = some (.struct fs)) (hj : fs[j]? = some f) (hd : parts[j]? = some d) (hw : ∀ k ∈ (DataW.agg parts).weights P t, k ≤ reachBytes) : ∀ k ∈ d.weights P f.type, k ≤ reachBytes := fun k hk => by
  refine hw k ?_
  simp only [DataW.weights, hu]
  exact DataW.weights_mem_each (j := j) (by simp [hj]) hd k hk
theorem weightsAll_mem {e : TypeId} : ∀ {ds : List (DataW H)} {d : DataW H}, d ∈ ds → ∀ k ∈ d.weights P e, k ∈ DataW.weightsAll P e ds
  | d0 :: r, d, hd, k, hk => by
    simp only [DataW.weightsAll, List.mem_append]
    rcases List.mem_cons.1 hd with rfl | h
    · exact .inl hk
    · exact .inr (weightsAll_mem h k hk)
theorem elem_sized {e : TypeId} {elems sp : List (DataW H)} (hu : P.underlying t = some (.slice e)) (hw : ∀ k ∈ (DataW.slice elems sp).weights P t, k ≤ reachBytes) : ∀ d ∈ elems, ∀ k ∈ d.weights P e, k ≤ reachBytes := fun d hd k hk => by
  refine hw k ?_
  simp only [DataW.weights, hu, List.mem_cons, List.mem_append]
  exact .inr (.inl (weightsAll_mem hd k hk))
theorem SlA.of_trodW {α : Type} {B sz : Nat} {E : World → List Value → α → Prop} {e : TypeId} {Wt : DataW H → Prop} (ht : P.underlying t = some (.slice e)) (hsz : P.cellsOf e = sz) (hs0 : 0 < sz)
    (h : DataW.trod enc P w 0 (fun _ => true) held fuel t cs = some x) (hp : ∀ p ∈ x.2, p.block < B) (hW : ∀ elems sp, x.1 = .slice elems sp → ∀ d ∈ elems, Wt d)
    (hE : ∀ n cs y, DataW.trod enc P w 0 (fun _ => true) held n e cs = some y → (∀ p ∈ y.2, p.block < B) → Wt y.1 → ∃ a, E w cs a) :
    ∃ ao cap xs, cs = [.slice ao xs.length cap] ∧ SlA B sz E w ao cap xs := by
  rcases DataW.trod_slice ht h with ⟨rfl, rfl⟩ | ⟨a, len, cap, elems, rest, n, _, rfl, hx, _, hl, hm, hel, hx1, _, _⟩
  · exact ⟨none, 0, [], rfl, SlA.nil _ _ _ _⟩
  subst hx
  dsimp only at hp hW
  rw [hsz] at hx1 hp
  have hall : ∀ i, i < len → ∃ y : α, ∃ cs' : List Value, cs'.length = sz ∧ (∀ j, j < sz → w.cell? ((a.add (i * sz)).add j) = cs'[j]?) ∧ E w cs' y := by
    intro i hi
    have hie : i < elems.length := by omega
    have h0 := hx1 i hi
    rw [List.getElem?_eq_getElem hie] at h0
    obtain ⟨cs', h1, h2⟩ := Option.bind_eq_some_iff.1 h0
    obtain ⟨_, h3, h4⟩ := World.cells?_some h1
    obtain ⟨y, hy⟩ := hE _ _ _ h2 (fun p hp' => hp p (List.mem_append_right _ (List.mem_flatMap.2 ⟨elems[i], List.mem_append_left _ (List.getElem_mem hie), hp'⟩))) (hW _ _ rfl _ (List.mem_map.2 ⟨_, List.getElem_mem hie, rfl⟩))
    exact ⟨y, cs', h3, h4, hy⟩
  obtain ⟨xs, hxl, hxx⟩ := list_of_all hall
  subst hxl
  refine ⟨some a, cap, xs, rfl, hl, hm, (by simp), fun hne => ?_⟩
  have hpos : 0 < xs.length := List.length_pos_iff.2 hne
  have hspot : a.spot = none := by
    obtain ⟨cs', h1, h2, _⟩ := hxx 0 hpos
    have h3 := h2 0 hs0
    rw [List.getElem?_eq_getElem (by omega)] at h3
    have : ((a.add (0 * sz)).add 0) = a := by simp [Addr.add]
    rw [this] at h3
    exact World.cell?_spot h3
  obtain ⟨b, off, spot⟩ := a
  simp only at hspot
  subst hspot
  refine ⟨b, off, rfl, ?_, fun i hi => ?_⟩
  · have hmz : 0 < (elems.length + rest.length) * sz := Nat.mul_pos (by omega) hs0
    have := hp (.cell b off) (List.mem_append_left _ (by
      unfold MemPlace.row
      exact List.mem_map.2 ⟨0, List.mem_range.2 hmz, by simp⟩))
    exact this
  · obtain ⟨cs', h1, h2, h3⟩ := hxx i hi
    refine ⟨cs', h1, fun j hj => ?_, h3⟩
    rw [← h2 j hj, Deep.add_add]
    congr 1
    unfold Addr.add
    split <;> simp_all
end
end Go

/- Entry: the sizes of an entry's slices. -/
namespace Go.Proofs.Ytcigbobihkkdiaa
open Go.RowKit
set_option linter.unusedVariables false
set_option linter.unusedSimpArgs false
def SOp (B : Nat) (w : World) (cs : List Value) (x : TOp) : Prop := ROp B w cs x ∧ x.fIn.length * 8 ≤ reachBytes
section
variable {H : Type} {enc : TypeId × Value → H} {held : Bool} {B : Nat} {w : World} {fuel : Nat} {cs : List Value} {x : DataW H × List MemPlace}
theorem sop_trod (h : DataW.trod enc Try.prog w 0 (fun _ => true) held fuel 47 cs = some x) (hp : ∀ p ∈ x.2, p.block < B) (hw : ∀ k ∈ x.1.weights Try.prog 47, k ≤ reachBytes) : ∃ a, SOp B w cs a := by
  obtain ⟨a, ha⟩ := ROp.of_trod h hp
  refine ⟨a, ha, ?_⟩
  obtain ⟨ys, n, _, rfl, hl, hlen, hf⟩ := DataW.trod_struct Try.underlying47 h
  obtain ⟨ao1, cap1, rfl, _⟩ := ha
  have hl7 : ys.length = 7 := hlen
  have hi : 1 < ys.length := by omega
  have g1 : DataW.trod enc Try.prog w 0 (fun _ => true) held n 45 [.slice ao1 a.fIn.length cap1] = ys[1]? := hf 1 _ rfl
  rw [List.getElem?_eq_getElem hi] at g1
  have := trod_len_sized Try.underlying45 g1 (part_sized (j := 1) Try.underlying47 rfl (by rw [List.getElem?_map, List.getElem?_eq_getElem hi]; rfl) hw)
  rwa [show Try.prog.bytesOf 3 = 8 by kernel_rfl] at this
theorem entry_sized (h : DataW.trod enc Try.prog w 0 (fun _ => true) held fuel 29 cs = some x) (hp : ∀ p ∈ x.2, p.block < B) (hw : ∀ k ∈ x.1.weights Try.prog 29, k ≤ reachBytes) :
    ∃ a, REntry B w cs a ∧ a.fGraph.fOps.length * 72 ≤ reachBytes ∧ ∀ o ∈ a.fGraph.fOps, o.fIn.length * 8 ≤ reachBytes := by
  obtain ⟨a, ao, cap, hc, z0, z1, z2, z3, z4, z5, hs, z7⟩ := REntry.of_trod h hp
  obtain ⟨ys, n, _, rfl, hl, hlen, hf⟩ := DataW.trod_struct Try.underlying29 h
  have hl4 : ys.length = 4 := hlen
  have hi : 2 < ys.length := by omega
  have g2 := hf 2 _ rfl
  rw [hc, List.getElem?_eq_getElem hi] at g2
  have g2' : DataW.trod enc Try.prog w 0 (fun _ => true) held n 27 [.slice ao a.fGraph.fOps.length cap] = some ys[2] := g2
  have hw2 := part_sized (j := 2) Try.underlying29 rfl (by rw [List.getElem?_map, List.getElem?_eq_getElem hi]; rfl) hw
  have hp2 : ∀ p ∈ ys[2].2, p.block < B := fun p hq => hp p (List.mem_flatMap.2 ⟨ys[2], List.getElem_mem hi, hq⟩)
  obtain ⟨y2, hy2⟩ : ∃ y, y = ys[2] := ⟨_, rfl⟩
  rw [← hy2] at g2' hw2 hp2
  obtain ⟨yg, n2, _, rfl, hlg, hleng, hfg⟩ := DataW.trod_struct Try.underlying27 g2'
  have hl1 : yg.length = 1 := hleng
  have hi1 : 0 < yg.length := by omega
  have g3 : DataW.trod enc Try.prog w 0 (fun _ => true) held n2 25 [.slice ao a.fGraph.fOps.length cap] = yg[0]? := hfg 0 _ rfl
  rw [List.getElem?_eq_getElem hi1] at g3
  have hw3 := part_sized (j := 0) Try.underlying27 rfl (by rw [List.getElem?_map, List.getElem?_eq_getElem hi1]; rfl) hw2
  have hp3 : ∀ p ∈ yg[0].2, p.block < B := fun p hq => hp2 p (List.mem_flatMap.2 ⟨yg[0], List.getElem_mem hi1, hq⟩)
  have hn := trod_len_sized Try.underlying25 g3 hw3
  rw [show Try.prog.bytesOf 47 = 72 by kernel_rfl] at hn
  obtain ⟨ao', cap', xs, hv, hsl⟩ := SlA.of_trodW (B := B) (sz := 7) (E := SOp B) (Wt := fun d => ∀ k ∈ d.weights Try.prog 47, k ≤ reachBytes) Try.underlying25 (by kernel_rfl) (by decide) g3 hp3 (fun elems sp he => elem_sized Try.underlying25 (by rw [← he]; exact hw3)) (fun n cs y h hp hw => sop_trod h hp hw)
  simp only [List.cons.injEq, Value.slice.injEq, and_true] at hv
  obtain ⟨rfl, hlx, rfl⟩ := hv
  refine ⟨⟨a.fKind, a.fRec, ⟨xs⟩, a.fN⟩, ⟨ao, cap, by rw [hc, hlx], z0, z1, z2, z3, z4, z5, hsl.imp (Below.refl _ _) (Nat.le_refl _) (fun _ _ _ h => h.1), z7⟩, by rw [← hlx]; exact hn, fun o ho => ?_⟩
  obtain ⟨i, hi, rfl⟩ := List.mem_iff_getElem.1 ho
  have hi' : i < xs.length := hi
  obtain ⟨b, off, rfl, hb, h7⟩ := hsl.addr (by omega)
  obtain ⟨_, _, _, h8⟩ := h7 i hi'
  exact h8.2
end
end Go.Proofs.Ytcigbobihkkdiaa

/- Entry: CopyGraph of the reference; the walk of EntryKeeps. -/
namespace Go.Proofs.Ytcigbobihkkdiaa
open Go.RowKit
set_option linter.unusedVariables false
set_option linter.unusedSimpArgs false

/-- The state of CopyGraph's loop. -/
structure CS (w wr : World) (ab rb ob : Nat) (va v : Value) : Prop where
  bel : Below w.heap.size w wr
  ha : Blk wr ab #[va] 27
  hr : Blk wr rb #[.slice none 0 0] 27
  ho : Blk wr ob #[v] 27
  o1 : w.heap.size ≤ ab
  o2 : ab < rb
  o3 : rb < ob
theorem CS.below {w wr u : World} {ab rb ob : Nat} {va v : Value} (h : CS w wr ab rb ob va v) (hb : Below wr.heap.size wr u) : CS w u ab rb ob va v :=
  ⟨h.bel.trans (hb.mono h.bel.size), h.ha.below hb h.ha.lt, h.hr.below hb h.hr.lt, h.ho.below hb h.ho.lt, h.o1, h.o2, h.o3⟩
theorem CS.chg {w u u' : World} {ab rb ob : Nat} {va v : Value} {S : Nat → Prop} (h : CS w u ab rb ob va v) (hc : Chg S u u') (hS : ∀ k, k ≤ ob → ¬ S k) : CS w u' ab rb ob va v := by
  obtain ⟨hb, ha, hr, ho, o1, o2, o3⟩ := h
  exact ⟨hb.trans (hc.below hb.size (fun k hk => hS _ (by omega))), ha.chg hc (hS _ (by omega)), hr.chg hc (hS _ (by omega)), ho.chg hc (hS _ (Nat.le_refl _)), o1, o2, o3⟩
theorem CS.set {w u : World} {ab rb ob : Nat} {va v y : Value} (h : CS w u ab rb ob va v) : CS w (u.setCell ⟨ob, 0, none⟩ y) ab rb ob va y := by
  obtain ⟨hb, ha, hr, ho, o1, o2, o3⟩ := h
  exact ⟨hb.setCell (by simp; omega) _, ha.set_other (by simp; omega) _, hr.set_other (by simp; omega) _, ho.set 0 y, o1, o2, o3⟩
theorem ints_sla {B cap : Nat} {w : World} {ao : Option Addr} {xs : List Int} (h : SlA B 1 (RI .i64) w ao cap xs) : SlA B 1 (fun _ cs x => cs = encN x) w ao cap xs :=
  h.imp (Below.refl _ _) (Nat.le_refl _) (fun cs x _ h => h.1)

set_option maxRecDepth 100000 in
set_option maxHeartbeats 1000000 in
theorem copyGraph_any (B : Nat) (xs : List TOp) (ao : Option Addr) (cap : Nat) (w : World) (hB : B ≤ w.heap.size) (hx : SlA B 7 (ROp B) w ao cap xs) (hz : xs.length * 72 ≤ 140737488355328) (hzi : ∀ o ∈ xs, o.fIn.length * 8 ≤ 140737488355328) :
    Calls Try.prog 16 #[.agg #[.slice ao xs.length cap]] w fun e w' => Below w.heap.size w w' ∧ ∃ v ps, e = .returned (.agg #[v]) ∧ OpsR w.heap.size w' v ps ∧ ps.map (·.x) = xs := by
  obtain ⟨n, hn⟩ : ∃ n, n = xs.length := ⟨_, rfl⟩
  rw [← hn] at hz ⊢
  replace hn := Lib.hid hn
  replace hzi := Lib.hid hzi
  obtain ⟨jN, hiN, hN0, hN1, hN2⟩ := info_parts infoN
  obtain ⟨jO, hiO, hO0, hO1, hO2⟩ := info_parts infoO
  go_enter Try.func16, Try.ntmps16
  go_upto_region 2 with fail
  refine Code.wp_world ?_
  intro w1 hw1
  obtain ⟨ab, hab⟩ : ∃ c, c = w.heap.size := ⟨_, rfl⟩
  obtain ⟨rb, hrb⟩ : ∃ c, c = w.heap.size + 1 := ⟨_, rfl⟩
  obtain ⟨ob, hob⟩ : ∃ c, c = w.heap.size + 1 + 1 := ⟨_, rfl⟩
  have hG : CS w w1 ab rb ob (.slice ao n cap) (.slice none 0 0) := by
    rw [hw1, hab, hrb, hob]
    exact ⟨below_alloc3 w _ _ _, ((Blk.new _ _ _).alloc _).alloc _, (blk_new1 _ _ _ _).alloc _, blk_new2 _ _ _ _ _, Nat.le_refl _, by omega, by omega⟩
  rw [← hob, ← hrb, ← hab]
  clear hw1
  have hwo : w.heap.size ≤ ob + 1 := by omega
  replace hab := Lib.hid hab
  replace hrb := Lib.hid hrb
  replace hob := Lib.hid hob
  have ek := hG.ha.cellAt (i := 0) (v := .slice ao n cap) rfl
  go_wp2_with fail
  go_loopw [4] (fun x4 wr => ∃ (i : Nat) (ps : List POp) (v : Value), i ≤ n ∧ x4 = .int .i64 i ∧ CS w wr ab rb ob (.slice ao n cap) v ∧ OpsR (ob + 1) wr v ps ∧ ps.map (·.x) = xs.take i) (fun x4 _ => n - (intOf x4).toNat)
  case atStart => exact ⟨0, [], _, Nat.zero_le _, rfl, hG, OpsR.nil _ _, rfl⟩
  case round =>
    clear hG ek
    obtain ⟨i, ps, v, hi, rfl, hG, hops, hpm⟩ := hrel
    have hbw := hG.bel
    have ea := hG.ha.cellAt (i := 0) (v := .slice ao n cap) rfl
    by_cases hin : i < n
    · have hdi : decide ((i : Int) < (n : Int)) = true := by simp; omega
      have hxi : i < xs.length := by rw [← hn.out]; exact hin
      obtain ⟨b, off, rfl, hb, _⟩ := hx.addr (by omega)
      obtain ⟨o, hxo⟩ : ∃ o, xs[i] = o := ⟨_, rfl⟩
      obtain ⟨ao1, cap1, e0, e1, e2, e3, e4, e5, e6, z0, hii, z2, z3, z4, z5, z6⟩ := ROp.at (ops_imp hx (hbw.mono hB)) hxi hxo
      have hti : xs.take (i + 1) = xs.take i ++ [o] := by rw [List.take_add_one, List.getElem?_eq_getElem hxi, hxo]; rfl
      have hzo := hzi.out o (by rw [← hxo]; exact List.getElem_mem hxi)
      have hpsl : ps.length = i := by have := congrArg List.length hpm; rw [List.length_map, List.length_take] at this; omega
      obtain ⟨m, hm⟩ : ∃ m, m = o.fIn.length := ⟨_, rfl⟩
      rw [← hm] at e1
      have hbwr : b < wr.heap.size := Nat.lt_of_lt_of_le hb (Nat.le_trans hB hbw.size)
      replace hxo := Lib.hid hxo
      replace hm := Lib.hid hm
      replace hti := Lib.hid hti
      replace hpm := Lib.hid hpm
      replace hpsl := Lib.hid hpsl
      replace hzo := Lib.hid hzo
      go_upto_region 6 with fail
      refine Code.wp_world ?_
      intro w2 hw2
      obtain ⟨kb, hkb⟩ : ∃ c, c = wr.heap.size := ⟨_, rfl⟩
      have hK2 : Blk w2 kb #[.int .i64 o.fKind, .slice ao1 m cap1, .int .i64 o.fArg, .int .u32 o.fNum, .int .i64 o.fRounds, .int .i64 o.fTest, .int .u32 o.fLim] 47 := by rw [hw2, hkb]; exact Blk.new _ _ _
      have hb2 : Below wr.heap.size wr w2 := by rw [hw2]; exact below_alloc1 _ _
      rw [← hkb]
      have hkb2' : kb < w2.heap.size := hK2.lt
      clear hw2 e0 e1 e2 e3 e4 e5 e6
      have k1 := hK2.cellAt (i := 1) (v := .slice ao1 m cap1) rfl
      replace hkb := Lib.hid hkb
      have k1' : (w2.alloc (.cells #[] 3)).cell? ⟨kb, 1, none⟩ = some (.slice ao1 m cap1) := (hK2.alloc _).cellAt rfl
      go_wp2_with (at_builtin; refine Shut.out ?ka)
      unfold Shut
      have hown0 : OwnL encN (w2.alloc (.cells #[] 3)) w2.heap.size 3 1 (.slice (some ⟨w2.heap.size, 0, none⟩) 0 0) [] := OwnL.of_blk (xs := []) (cap := 0) (Blk.new w2 #[] 3) (Nat.le_refl _) (Nat.le_refl 0) (by unfold maxLen; omega) rfl rfl rfl
      have hbw2 := hbw.trans (hb2.mono hbw.size)
      have hii2 := ints_sla (in_imp hii ((hb2.trans ((below_alloc1 w2 (.cells #[] 3)).mono hb2.size)).mono (Nat.le_trans hB hbw.size)))
      refine wpList_app_sla (xs := []) (ys := o.fIn) (enc := encN) (base := w2.heap.size) _ rfl _ _ 45 rfl Try.underlying45 hiN hN0 hN1 hN2 rfl (by decide) rfl hown0 (by show Value.slice ao1 m cap1 = _; rw [hm.out]) hii2 encN_len encN_one (by have := hzo.out; unfold maxLen; simp; omega) (by have := hzo.out; simp; omega) (by simp) (fun v3 w3 hown3 hgr3 => ?_)
      rw [List.nil_append] at hown3
      have hb23 : Below w2.heap.size w2 w3 := (below_alloc1 w2 (.cells #[] 3)).grown hgr3 (by simp) (fun g hg => by simp [Act.eval, Value.ownBlock] at hg; omega)
      have hK3 := hK2.below hb23 hK2.lt
      have hwf : ∀ y ∈ o.fIn, (Lit.int IntKind.i64 y).wf = true := fun y hy => by
        obtain ⟨j, hj, rfl⟩ := List.mem_iff_getElem.1 hy
        obtain ⟨b1, o1, rfl, _, _⟩ := hii.addr (by omega)
        exact (in_at hii hj rfl).2
      obtain ⟨ao3, cap3, hv3, hsI⟩ := SlP.of_ints (D := fun k => w2.heap.size ≤ k ∧ k < w3.heap.size) hown3 hwf (fun g hg => hown3.lt g hg)
      subst hv3
      rw [← hm.out]
      clear hown0 hii2 hown3 hgr3 k1 k1' hii hK2
      have f1 := hK3.frozen 1
      have k1 := hK3.cellAt (i := 1) (v := .slice ao1 m cap1) rfl
      go_upto_region 7 with fail
      refine Code.wp_world ?_
      intro w4 hw4
      have hkbe := hkb.out
      have hs2 := hb2.size
      have hs3 := hb23.size
      have hkb2 : kb < w2.heap.size := by
        have := hb2.size
        exact hkb2'
      have hK4 : Blk w4 kb #[.int .i64 o.fKind, .slice ao3 m cap3, .int .i64 o.fArg, .int .u32 o.fNum, .int .i64 o.fRounds, .int .i64 o.fTest, .int .u32 o.fLim] 47 := by rw [hw4]; exact hK3.set 1 _
      have hbr : Below wr.heap.size wr w4 := by rw [hw4]; exact (hb2.trans (hb23.mono hb2.size)).setCell (by simp; omega) _
      have hc34 : Chg (fun k => k = kb) w3 w4 := by rw [hw4]; exact (Chg.refl (fun k => k = kb) w3).setCell ⟨kb, 1, none⟩ _ (fun _ => rfl)
      have hs4 := hc34.size
      obtain ⟨p, hp⟩ : ∃ p : POp, p = ⟨o, ao3, cap3⟩ := ⟨_, rfl⟩
      have hpx : p.x = o := by rw [hp]
      have hpI : InP (fun k => wr.heap.size ≤ k ∧ k < w4.heap.size) w4 p := by
        rw [hp]
        exact ⟨⟨z0, hwf, z2, z3, z4, z5, z6⟩, hsI.imp (fun k hk => ⟨⟨by omega, by omega⟩, hc34.block k hk.2 (by omega)⟩) (fun _ _ _ h => h)⟩
      clear hw4 hK3 hc34 hsI k1 f1 hwf
      have hGr := hG.below hbr
      have hopsi := hops.below hbr (Nat.le_refl _)
      obtain ⟨k0', k1', k2', k3', k4', k5', k6'⟩ := blk7 hK4
      have hE6 : w4.cell? ⟨ob, 0, none⟩ = some v := hGr.ho.cellAt rfl
      obtain ⟨aov, capv, hvv2, _, _, _⟩ := hops.1.slice
      subst hvv2
      have hebs : ob + 1 ≤ w4.heap.size := hGr.ho.lt
      have hebq : ob + 1 ≤ wr.heap.size := hG.ho.lt
      rw [hpsl.out] at hE6 hGr hopsi
      have hpe : (#[.int .i64 o.fKind, .slice ao3 m cap3, .int .i64 o.fArg, .int .u32 o.fNum, .int .i64 o.fRounds, .int .i64 o.fTest, .int .u32 o.fLim] : Array Value) = (encO p).toArray := by rw [hp, hm.out]; rfl
      replace hpe := Lib.hid hpe
      replace hp := Lib.hid hp
      replace hpx := Lib.hid hpx
      replace hkbe := Lib.hid hkbe
      clear hkb hK4
      go_wp2_with (at_builtin; refine Shut.out ?kap)
      unfold Shut
      rw [hpe.out]
      refine wpList_app1g rfl _ _ 25 rfl Try.underlying25 hiO hO0 hO1 hO2 rfl (by decide) (enc := encO) p rfl hopsi.1 rfl (encO_len _) (encO_one _) (by rw [hpsl.out]; omega) (by rw [hpsl.out]; unfold maxLen; omega) hebs (fun g cap7 w7 hown7 hgr7 => ?_)
      rw [hpsl.out] at hown7 hgr7 ⊢
      have hgc : Chg (fun k => ob + 1 ≤ k) w4 w7 := (Chg.of_grown hgr7.grown).mono (fun k h1 h2 => (hopsi.1.lt k h2).1)
      have hopsq := hops
      rw [hpsl.out] at hopsq
      have hops7 := hopsq.snoc (S := fun _ => False) hebq ((Chg.of_below hbr).mono (fun k h1 h2 => absurd h2 (by omega))) (fun k hk e => e) hown7 hgr7 hpI
      have hG7 := hGr.chg hgc (fun k hk e => by omega)
      have e7' : w7.cell? ⟨ob, 0, none⟩ = some (.slice aov i capv) := hG7.ho.cellAt rfl
      have f7' := hG7.ho.frozen 0
      have hset := (Chg.refl (fun k => k = ob) w7).setCell ⟨ob, 0, none⟩ (.slice (some ⟨g, 0, none⟩) (i + 1) cap7) (fun _ => rfl)
      have hops8 := hops7.chg hset (fun k hk e => by omega)
      have hG8 := hG7.set (y := .slice (some ⟨g, 0, none⟩) (i + 1) cap7)
      clear hgr7 hopsi hops hopsq hG hGr hgc hG7 hown7 hops7 hset hpI k0' k1' k2' k3' k4' k5' k6' hE6
      go_wp2_with fail
      go_roundw
      case rel => exact ⟨i + 1, ps ++ [p], _, by omega, rfl, hG8, hops8, by rw [List.map_append, hpm.out, hti.out, List.map_singleton, hpx.out]⟩
      case measure => simp [intOf]; omega
    · have hdi : decide ((i : Int) < (n : Int)) = false := by simp; omega
      have hie : i = n := by omega
      have hpm2 : ps.map (·.x) = xs := by rw [hpm, hie, hn.out, List.take_length]
      obtain ⟨aov, capv, hvv2, _, _, _⟩ := hops.1.slice
      obtain ⟨np, hnp⟩ : ∃ k, k = ps.length := ⟨_, rfl⟩
      rw [← hnp] at hvv2
      replace hnp := Lib.hid hnp
      subst hvv2
      have q0 := hG.hr.cellAt (i := 0) (v := .slice none 0 0) rfl
      have qf := hG.hr.frozen 0
      have g0 := hG.ho.cellAt (i := 0) (v := .slice aov np capv) rfl
      have hGr := hG.hr
      have hG1 := hG.o1
      have hG2 := hG.o2
      have hG3 := hG.o3
      skip
      have hops8 := hops.chg ((Chg.refl (fun k => k = rb) wr).setCell ⟨rb, 0, none⟩ (.slice aov np capv) (fun _ => rfl)) (fun k hk e => by omega)
      clear hG hpm hie
      go_wp2_with fail
      refine bodyPost_ret (results_cell_row rfl _ _ rb 27 _ (0, 0) _ rfl (hGr.set 0 _) Try.underlying27 rfl (by kernel_rfl)) rfl ?_
      refine ⟨(by repeat (first | with_reducible assumption | with_reducible exact Below.refl _ _ | with_reducible refine below_drewN ?_ _ | with_reducible refine Below.drew ?_ | (refine Below.setCell ?_ (by first | omega | (simp; omega) | simp) _) | (refine Below.alloc ?_ (by first | omega | (simp; omega) | simp) _) | (refine Below.trans ?_ (Below.mono (by with_reducible assumption) (by first | omega | (simp; omega) | simp))))), _, ps, rfl, hops8.base_le (by omega), hpm2⟩
end Go.Proofs.Ytcigbobihkkdiaa
namespace Go.Proofs.Ytcigbobihkkdiaa
open Go.RowKit
theorem flat_set {α : Type} {enc : α → List Value} {size : Nat} (hk : ∀ x, (enc x).length = size) {x' : α} {c : Value} {j : Nat} (hj : j < size) : ∀ (xs : List α) (i : Nat) (hi : i < xs.length), enc x' = (enc xs[i]).set j c →
    (xs.set i x').flatMap enc = (xs.flatMap enc).set (i * size + j) c
  | x :: r, 0, _, hx => by
    simp only [List.set_cons_zero, List.flatMap_cons, List.getElem_cons_zero] at hx ⊢
    rw [hx, List.set_append_left _ _ (by rw [hk]; omega), Nat.zero_mul, Nat.zero_add]
  | x :: r, i + 1, hi, hx => by
    simp only [List.set_cons_succ, List.flatMap_cons, List.getElem_cons_succ] at hx ⊢
    have hm : (i + 1) * size = i * size + size := Nat.succ_mul i size
    rw [flat_set hk hj r i (by simpa using hi) hx, List.set_append_right _ _ (by rw [hk]; omega), hk]
    congr 2
    omega
theorem own_set {α : Type} {enc : α → List Value} {size base g n cap : Nat} {e : TypeId} {w : World} {xs : List α} (h : OwnL enc w base e size (.slice (some ⟨g, 0, none⟩) n cap) xs) (hk : ∀ x, (enc x).length = size) {i j : Nat} (hi : i < xs.length) (hj : j < size) {x' : α} {c : Value} (hx : enc x' = (enc xs[i]).set j c) :
    OwnL enc (w.setCell ⟨g, i * size + j, none⟩ c) base e size (.slice (some ⟨g, 0, none⟩) n cap) (xs.set i x') := by
  rcases h.form with ⟨h1, _⟩ | ⟨g', cap', cells, h1, h2, h3, h4, h5, h6, h7, h8⟩
  · cases h1
  · simp only [Value.slice.injEq, Option.some.injEq, Addr.mk.injEq] at h1
    obtain ⟨⟨rfl, _⟩, rfl, rfl⟩ := h1
    have := OwnL.of_blk (enc := enc) (xs := xs.set i x') (h2.set (i * size + j) c) h6 (by rw [List.length_set]; exact h3) h4 (by simpa using h5) (by rw [List.length_set, flat_set hk hj xs i hi hx, ← h8, Array.toList_setIfInBounds, List.take_set]) (by rw [flat_len hk])
    rwa [List.length_set] at this
/-- Inputs of an operator of which only the cells' being there is known. -/
def WIn (D : Nat → Prop) (w : World) (p : POp) : Prop := (p.x.fIn.length ≤ p.cap ∧ p.cap ≤ maxLen) ∧ (p.x.fIn.length ≠ 0 → ∃ b cells T, p.ao = some ⟨b, 0, none⟩ ∧ D b ∧ Blk w b cells T ∧ p.x.fIn.length ≤ cells.size)
theorem WIn.of_inP {D D' : Nat → Prop} {w : World} {p : POp} (h : InP D w p) (hD : ∀ b, D b → D' b) : WIn D' w p := by
  obtain ⟨_, h1, h2, h3, h4⟩ := h
  refine ⟨⟨h1, h2⟩, fun hne => ?_⟩
  obtain ⟨b, e1, e2, ⟨cells, T, e3, e4⟩, _⟩ := h4 (by intro hh; rw [hh] at hne; exact hne rfl)
  exact ⟨b, cells, T, e1, hD b e2, e3, by simpa using e4⟩
theorem WIn.set {D : Nat → Prop} {w : World} {p : POp} (h : WIn D w p) (b k : Nat) (c : Value) : WIn D (w.setCell ⟨b, k, none⟩ c) p := by
  refine ⟨h.1, fun hne => ?_⟩
  obtain ⟨b', cells, T, e1, e2, e3, e4⟩ := h.2 hne
  by_cases hbb : b' = b
  · subst hbb
    exact ⟨b', _, T, e1, e2, e3.set k c, by simpa using e4⟩
  · exact ⟨b', cells, T, e1, e2, e3.set_other (by simp; omega) _, e4⟩
/-- The state of EntryKeeps' loops. -/
structure KS (A lc : Nat) (v : Value) (w1 wr : World) (pa : List POp) : Prop where
  chg : Chg (fun k => A ≤ k ∧ k < lc) w1 wr
  own : OwnL encO wr A 47 7 v pa
  win : ∀ p ∈ pa, WIn (fun b => A ≤ b ∧ b < lc ∧ v.ownBlock ≠ some b) wr p
theorem KS.setIn {A lc : Nat} {v : Value} {w1 wr : World} {pa : List POp} (h : KS A lc v w1 wr pa) {p : POp} (hp : p ∈ pa) {b k : Nat} (hb : p.ao = some ⟨b, 0, none⟩) (hk : k < p.x.fIn.length) (c : Value) : KS A lc v w1 (wr.setCell ⟨b, k, none⟩ c) pa := by
  obtain ⟨b', cells, T, e1, ⟨d1, d2, d3⟩, e3, e4⟩ := (h.win p hp).2 (by omega)
  rw [hb] at e1
  simp only [Option.some.injEq, Addr.mk.injEq] at e1
  obtain ⟨rfl, _⟩ := e1
  exact ⟨h.chg.setCell ⟨b, k, none⟩ c (fun _ => ⟨d1, d2⟩), h.own.chg ((Chg.refl (fun x => x = b) wr).setCell ⟨b, k, none⟩ c (fun _ => rfl)) (fun g hg e => by subst e; exact d3 hg), fun q hq => (h.win q hq).set b k c⟩
def kindN (p : POp) : POp := ⟨⟨-9, p.x.fIn, p.x.fArg, p.x.fNum, p.x.fRounds, p.x.fTest, p.x.fLim⟩, p.ao, p.cap⟩
theorem KS.setKind {A lc g n cap : Nat} {w1 wr : World} {pa : List POp} (h : KS A lc (.slice (some ⟨g, 0, none⟩) n cap) w1 wr pa) (hg : g < lc) {i : Nat} (hi : i < pa.length) :
    KS A lc (.slice (some ⟨g, 0, none⟩) n cap) w1 (wr.setCell ⟨g, i * 7 + 0, none⟩ (.int .i64 (-9))) (pa.set i (kindN pa[i])) := by
  refine ⟨h.chg.setCell _ _ (fun _ => ⟨(h.own.lt g rfl).1, hg⟩), own_set h.own encO_len hi (by omega) rfl, fun q hq => ?_⟩
  rcases List.mem_or_eq_of_mem_set hq with h1 | rfl
  · exact (h.win q h1).set _ _ _
  · have h0 : WIn (fun b => A ≤ b ∧ b < lc ∧ (Value.slice (some ⟨g, 0, none⟩) n cap).ownBlock ≠ some b) wr (kindN pa[i]) := h.win pa[i] (List.getElem_mem hi)
    exact h0.set _ _ _
theorem own_cell {α : Type} {enc : α → List Value} {size base g n cap : Nat} {e : TypeId} {w : World} {xs : List α} (h : OwnL enc w base e size (.slice (some ⟨g, 0, none⟩) n cap) xs) (hk : ∀ x, (enc x).length = size) {i j : Nat} (hi : i < xs.length) (hj : j < size) : w.cell? ⟨g, i * size + j, none⟩ = (enc xs[i])[j]? ∧ ∀ k, w.frozen? ⟨g, k, none⟩ = false := by
  rcases h.form with ⟨h1, _⟩ | ⟨g', cap', cells, h1, h2, h3, h4, h5, h6, h7, h8⟩
  · cases h1
  · simp only [Value.slice.injEq, Option.some.injEq, Addr.mk.injEq] at h1
    obtain ⟨⟨rfl, _⟩, rfl, rfl⟩ := h1
    refine ⟨?_, fun k => h2.frozen k⟩
    have hm1 : (i + 1) * size ≤ xs.length * size := Nat.mul_le_mul_right size hi
    have hm2 : (i + 1) * size = i * size + size := Nat.succ_mul i size
    have hm3 : i * size + j < xs.length * size := by omega
    rw [h2.cell, ← flat_at hk xs i j hi hj, ← h8, List.getElem?_take, if_pos hm3]
    simp
set_option maxRecDepth 100000 in
set_option maxHeartbeats 2000000 in
theorem ekeeps_walk (x : TEntry) (ao1 : Option Addr) (cap1 : Nat) (w : World) (hx : SlA w.heap.size 7 (ROp w.heap.size) w ao1 cap1 x.fGraph.fOps) (hw1 : wfE x) (hz : x.fGraph.fOps.length * 72 ≤ 140737488351232) (hzi : ∀ o ∈ x.fGraph.fOps, o.fIn.length * 8 ≤ 140737488355328) :
    Calls Try.prog 6 #[.agg (encE x ao1 cap1)] w fun e w' => e = .returned (.bool true) ∧ Below w.heap.size w w' := by
  have hback : (entV x).2 = 0 → edV (entV x).1 = (x, 0) := ent_back2 hw1
  have hl1 := entV_lt x
  have hln : (toB (entV x).1).size ≤ maxLen := by rw [toB_size]; exact Nat.le_trans (entV_len x) (by unfold maxLen; omega)
  have hD1 : (entV x).2 = 0 → ∀ u : World, Calls Try.prog 13 #[.string (toB (entV x).1)] u (EDecR u (x, 0)) := fun h u => by
    have := edecode_any (toB (entV x).1) u hln
    rw [txt_toB hl1, hback h] at this
    exact this
  obtain ⟨z0, z1, z2, z3, z5, z7, _⟩ := hw1
  have hE1 := fun (u : World) (hb : Below w.heap.size w u) => eencode_any x ao1 cap1 u w.heap.size hb.size (ops_imp hx hb) z0 z1 z2 z3 z5 z7
  have hC := fun (u : World) (hb : Below w.heap.size w u) => copyGraph_any w.heap.size x.fGraph.fOps ao1 cap1 u hb.size (ops_imp hx hb) (by omega) hzi
  have hS := fun (u : World) (hb : Below w.heap.size w u) => ops_imp hx hb
  obtain ⟨⟨S, E⟩, hSE⟩ : ∃ t, t = entV x := ⟨_, rfl⟩
  rw [← hSE] at hE1 hD1
  dsimp only at hE1 hD1
  obtain ⟨sb, hsb⟩ : ∃ t, t = toB S := ⟨_, rfl⟩
  rw [← hsb] at hE1 hD1
  obtain ⟨n1, hnn1⟩ : ∃ n, n = x.fGraph.fOps.length := ⟨_, rfl⟩
  unfold encE at hE1 ⊢
  rw [← hnn1] at hE1 hC hz ⊢
  clear hback hl1 hln hSE hsb z0 z1 z2 z3 z5 z7 hx hzi
  replace hE1 := Lib.hid hE1
  replace hD1 := Lib.hid hD1
  replace hS := Lib.hid hS
  replace hC := Lib.hid hC
  replace hnn1 := Lib.hid hnn1
  replace hz := Lib.hid hz
  go_enter Try.func6, Try.ntmps6
  go_upto_region 1 with fail
  refine Code.wp_world ?_
  intro w1 hww1
  have hb1 : Below w.heap.size w w1 := by rw [hww1]; exact below_alloc1 w _
  have hL : Blk w1 w.heap.size #[.int .i64 x.fKind, .int .i64 x.fRec.fProducer, .int .i64 x.fRec.fSeq, .int .i64 x.fRec.fPart, .string x.fRec.fKey, .int .u32 x.fRec.fVal, .slice ao1 n1 cap1, .int .i64 x.fN] 29 := by rw [hww1]; exact Blk.new _ _ _
  obtain ⟨la, hla⟩ : ∃ c, c = w.heap.size := ⟨_, rfl⟩
  rw [← hla] at hL
  rw [← hla]
  clear hww1
  replace hla := Lib.hid hla
  have hK := eknown_any w1
  go_wp2_with (go_at_call 10; refine Shut.out ?k1)
  unfold Shut
  refine hK.mono ?_
  rintro e w2 ⟨rfl, hb12⟩
  dsimp only
  have hb2 := hb1.trans (hb12.mono hb1.size)
  replace hL := hL.below hb12 hL.lt
  clear hK hb12
  obtain ⟨c0, c1, c2, c3, c4, c5, c6, c7⟩ := blk8 hL
  go_upto_region 4 with fail
  refine Code.wp_world ?_
  intro w3 hww3
  obtain ⟨lb, hlb⟩ : ∃ c, c = w2.heap.size := ⟨_, rfl⟩
  have hM : Blk w3 lb #[.int .i64 x.fKind, .int .i64 x.fRec.fProducer, .int .i64 x.fRec.fSeq, .int .i64 x.fRec.fPart, .string x.fRec.fKey, .int .u32 x.fRec.fVal, .slice ao1 n1 cap1, .int .i64 x.fN] 29 := by rw [hww3, hlb]; exact Blk.new _ _ _
  have hb23 : Below w2.heap.size w2 w3 := by rw [hww3]; exact below_alloc1 _ _
  rw [← hlb]
  clear hww3 c0 c1 c2 c3 c4 c5 c6 c7
  have hlab : la < lb := by rw [hlb]; exact hL.lt
  have hlbw : w.heap.size ≤ lb := by rw [hlb]; exact hb2.size
  replace hlb := Lib.hid hlb
  have hb3 := hb2.trans (hb23.mono hb2.size)
  replace hL := hL.below hb23 hL.lt
  have hCa := hC.out w3 hb3
  clear hC hb23 hb2 hb1
  obtain ⟨c0, c1, c2, c3, c4, c5, c6, c7⟩ := blk8 hL
  go_wp2_with (go_at_call 16; refine Shut.out ?k2)
  unfold Shut
  refine hCa.mono ?_
  rintro e w4 ⟨hb34, v, ps, rfl, hops, hpm⟩
  obtain ⟨ao2, cap2, rfl, _⟩ := hops.sla
  have hpl : ps.length = n1 := by rw [hnn1.out, ← hpm, List.length_map]
  rw [hpl]
  replace hpl := Lib.hid hpl
  replace hpm := Lib.hid hpm
  have hlb3 : lb < w3.heap.size := hM.lt
  clear hCa c0 c1 c2 c3 c4 c5 c6 c7
  have hb4 := hb3.trans (hb34.mono hb3.size)
  replace hL := hL.below hb34 hL.lt
  replace hM := hM.below hb34 hM.lt
  have m6 := hM.cellAt (i := 6) (v := .slice ao1 n1 cap1) rfl
  have mf := hM.frozen 6
  go_upto_region 5 with fail
  refine Code.wp_world ?_
  intro w5 hww5
  have hM5 : Blk w5 lb #[.int .i64 x.fKind, .int .i64 x.fRec.fProducer, .int .i64 x.fRec.fSeq, .int .i64 x.fRec.fPart, .string x.fRec.fKey, .int .u32 x.fRec.fVal, .slice ao2 n1 cap2, .int .i64 x.fN] 29 := by rw [hww5]; exact hM.set 6 _
  have hL5 : Blk w5 la #[.int .i64 x.fKind, .int .i64 x.fRec.fProducer, .int .i64 x.fRec.fSeq, .int .i64 x.fRec.fPart, .string x.fRec.fKey, .int .u32 x.fRec.fVal, .slice ao1 n1 cap1, .int .i64 x.fN] 29 := by rw [hww5]; exact hL.set_other (by simp; omega) _
  have hb5 : Below w.heap.size w w5 := by rw [hww5]; exact hb4.setCell (by simp; omega) _
  have hops5 : OpsR w3.heap.size w5 (.slice ao2 ps.length cap2) ps := by
    rw [hww5]
    exact hops.chg ((Chg.refl (fun k => k = lb) w4).setCell ⟨lb, 6, none⟩ _ (fun _ => rfl)) (fun k hk e => by omega)
  obtain ⟨ao2', cap2', hv', hsl2⟩ := hops5.sla
  simp only [Value.slice.injEq] at hv'
  obtain ⟨rfl, -, rfl⟩ := hv'
  rw [hpm.out] at hsl2
  clear hww5 hM hL m6 mf hops hops5 hb34 hpm hpl hlb3 hb3 hb4
  have hEa := hE1.out w5 hb5
  clear hE1
  obtain ⟨c0, c1, c2, c3, c4, c5, c6, c7⟩ := blk8 hL5
  go_wp2_with (go_at_call 8; refine Shut.out ?k3)
  unfold Shut
  refine hEa.mono ?_
  rintro e w6 ⟨rfl, hb56⟩
  dsimp only
  have hbB : Below w5.heap.size w5 w6 := hb56
  have hb6 := hb5.trans (hb56.mono hb5.size)
  have hL6 := hL5.below hbB hL5.lt
  have hM6 := hM5.below hbB hM5.lt
  clear hEa c0 c1 c2 c3 c4 c5 c6 c7 hL5 hM5 hb56
  have hsame := fun (u : World) (hb : Below w5.heap.size w5 u) => esame_any w5.heap.size x x ao1 ao2 cap1 cap2 u hb.size ((hS.out u (hb5.trans (hb.mono hb5.size))).imp (Below.refl _ _) hb5.size (fun _ _ _ h => h.imp (Below.refl _ _) hb5.size)) (ops_imp hsl2 hb)
  unfold encE at hsame
  rw [← hnn1.out] at hsame
  have hSa := hsame w6 hbB
  replace hsame := Lib.hid hsame
  replace hsl2 := Lib.hid hsl2
  obtain ⟨c0, c1, c2, c3, c4, c5, c6, c7⟩ := blk8 hL6
  obtain ⟨e0, e1, e2, e3, e4, e5, e6, e7⟩ := blk8 hM6
  go_wp2_with (go_at_call 15; refine Shut.out ?k4)
  unfold Shut
  refine hSa.mono ?_
  rintro e w7 ⟨⟨g, rfl, hg⟩, hb67⟩
  obtain rfl : g = true := hg.2 (by trivial)
  dsimp only
  replace hbB := hbB.trans (hb67.mono hbB.size)
  replace hL6 := hL6.below hb67 hL6.lt
  replace hM6 := hM6.below hb67 hM6.lt
  clear hSa hg c0 c1 c2 c3 c4 c5 c6 c7 e0 e1 e2 e3 e4 e5 e6 e7 hb67 hb6
  by_cases hE0 : E = 0
  case neg =>
    have d1 : ((E : Int) != 0) = true := by simpa using hE0
    have hSb := hsame.out w7 hbB
    obtain ⟨c0, c1, c2, c3, c4, c5, c6, c7⟩ := blk8 hL6
    obtain ⟨e0, e1, e2, e3, e4, e5, e6, e7⟩ := blk8 hM6
    clear hsame hsl2 hD1 hS
    go_wp2_with (go_at_call 15; refine Shut.out ?k5)
    unfold Shut
    refine hSb.mono ?_
    rintro e w8 ⟨⟨g, rfl, hg⟩, hb78⟩
    obtain rfl : g = true := hg.2 (by trivial)
    dsimp only
    replace hbB := hbB.trans (hb78.mono hbB.size)
    clear hSb hg c0 c1 c2 c3 c4 c5 c6 c7 e0 e1 e2 e3 e4 e5 e6 e7 hb78 hL6 hM6
    go_wp2_with fail
    go_ret
    exact ⟨by simp, hb5.trans (hbB.mono hb5.size)⟩
  subst hE0
  clear hsame hS hL6
  rw [show ((0 : Nat) : Int) = 0 from rfl]
  have hDa := hD1.out rfl w7
  go_wp2_with (go_at_call 13; refine Shut.out ?k6)
  unfold Shut
  refine hDa.mono ?_
  rintro e w8 ⟨hb78, v, pa, rfl, hopa, hpa⟩
  dsimp only at hpa ⊢
  obtain ⟨ao3, cap3, rfl, _, _⟩ := hopa.encE hpa
  clear hDa
  rw [← hnn1.out] at hopa
  unfold encV8
  try dsimp only
  rw [← hnn1.out]
  replace hpa := Lib.hid hpa
  go_upto_region 9 with fail
  refine Code.wp_world ?_
  intro w9 hww9
  obtain ⟨lc, hlc⟩ : ∃ c, c = w8.heap.size := ⟨_, rfl⟩
  have hA9 : Blk w9 lc #[.int .i64 x.fKind, .int .i64 x.fRec.fProducer, .int .i64 x.fRec.fSeq, .int .i64 x.fRec.fPart, .string x.fRec.fKey, .int .u32 x.fRec.fVal, .slice ao3 n1 cap3, .int .i64 x.fN] 29 := by rw [hww9, hlc]; exact Blk.new _ _ _
  have hb89 : Below w8.heap.size w8 w9 := by rw [hww9]; exact below_alloc1 _ _
  have hs9 : lc < w9.heap.size := hA9.lt
  rw [← hlc]
  clear hww9
  have hop9 := hopa.below hb89 (Nat.le_refl _)
  have hob : ∀ b, w7.heap.size ≤ b ∧ b < w8.heap.size ∧ (Value.slice ao3 n1 cap3).ownBlock ≠ some b → w7.heap.size ≤ b ∧ b < lc ∧ (Value.slice ao3 n1 cap3).ownBlock ≠ some b := fun b hb => by rw [hlc]; exact hb
  have hgl : ∀ g, (Value.slice ao3 n1 cap3).ownBlock = some g → w7.heap.size ≤ g ∧ g < lc := fun g hg => by rw [hlc]; exact hopa.1.lt g hg
  have hKS9 : KS w7.heap.size lc (.slice ao3 n1 cap3) w9 w9 pa := ⟨Chg.refl _ _, hop9.1, fun p hp => WIn.of_inP ((hopa.2 p hp).imp fun b hb => ⟨hob b hb, hb89.block b hb.2.1⟩) (fun b hb => hb)⟩
  have hpal : pa.length = n1 := by rw [hnn1.out, ← hpa.out, List.length_map]
  have hbB9 := hbB.trans ((hb78.mono hbB.size).trans (hb89.mono (Nat.le_trans hbB.size hb78.size)))
  have hM9 := (hM6.below hb78 hM6.lt).below hb89 (hM6.below hb78 hM6.lt).lt
  have hlb7 : lb < w7.heap.size := hM6.lt
  have h7c : w7.heap.size ≤ lc := by rw [hlc]; exact hb78.size
  have h5 := hbB.size
  clear hopa hop9 hob hb78 hb89 hM6 hpa hbB
  replace hlc := Lib.hid hlc
  replace hpal := Lib.hid hpal
  replace hgl := Lib.hid hgl
  have hDb := hD1.out (by trivial) w9
  clear hD1
  go_wp2_with (go_at_call 13; refine Shut.out ?k7)
  unfold Shut
  refine hDb.mono ?_
  rintro e w10 ⟨hb910, v, pb, rfl, hopb, hpb⟩
  dsimp only at hpb ⊢
  obtain ⟨ao4, cap4, rfl, _, _⟩ := hopb.encE hpb
  clear hDb
  rw [← hnn1.out] at hopb
  unfold encV8
  try dsimp only
  rw [← hnn1.out]
  replace hpb := Lib.hid hpb
  go_upto_region 10 with fail
  refine Code.wp_world ?_
  intro w11 hww11
  obtain ⟨ld, hld⟩ : ∃ c, c = w10.heap.size := ⟨_, rfl⟩
  have hB11 : Blk w11 ld #[.int .i64 x.fKind, .int .i64 x.fRec.fProducer, .int .i64 x.fRec.fSeq, .int .i64 x.fRec.fPart, .string x.fRec.fKey, .int .u32 x.fRec.fVal, .slice ao4 n1 cap4, .int .i64 x.fN] 29 := by rw [hww11, hld]; exact Blk.new _ _ _
  have hb1011 : Below w10.heap.size w10 w11 := by rw [hww11]; exact below_alloc1 _ _
  rw [← hld]
  clear hww11
  have hb911 : Below w9.heap.size w9 w11 := hb910.trans (hb1011.mono hb910.size)
  have hopb11 := hopb.below hb1011 (Nat.le_refl _)
  have hA11 := hA9.below hb911 hA9.lt
  have hM11 := hM9.below hb911 hM9.lt
  have hKS : KS w7.heap.size lc (.slice ao3 n1 cap3) w11 w11 pa := ⟨Chg.refl _ _, hKS9.own.below hb911 (Nat.le_refl _), fun p hp => by
    obtain ⟨h1, h2⟩ := hKS9.win p hp
    refine ⟨h1, fun hne => ?_⟩
    obtain ⟨b, cells, T, e1, e2, e3, e4⟩ := h2 hne
    exact ⟨b, cells, T, e1, e2, e3.below hb911 e3.lt, e4⟩⟩
  have hbB11 := hbB9.trans (hb911.mono hbB9.size)
  have hsl211 := ops_imp hsl2.out hbB11
  have hld9 : w9.heap.size ≤ ld := by rw [hld]; exact hb910.size
  have hld11 : ld < w11.heap.size := hB11.lt
  clear hopb hb1011 hb910 hb911 hA9 hM9 hKS9 hbB9 hsl2
  replace hld := Lib.hid hld
  replace hsl211 := Lib.hid hsl211
  replace hopb11 := Lib.hid hopb11
  have ea := hA11.cellAt (i := 6) (v := .slice ao3 n1 cap3) rfl
  go_wp2_with fail
  go_loopw [10] (fun x10 wr => ∃ (i : Nat) (pa' : List POp), i ≤ n1 ∧ x10 = .int .i64 i ∧ pa'.length = n1 ∧ KS w7.heap.size lc (.slice ao3 n1 cap3) w11 wr pa') (fun x10 _ => n1 - (intOf x10).toNat)
  case atStart => exact ⟨0, pa, Nat.zero_le _, rfl, hpal.out, hKS⟩
  case round =>
    clear hKS ea hpal
    obtain ⟨i, pa', hi, rfl, hpl, hKS⟩ := hrel
    obtain ⟨wo, rfl⟩ : ∃ x, x = wr := ⟨_, rfl⟩
    have hA := hA11.chg hKS.chg (fun h => by omega)
    have ea := hA.cellAt (i := 6) (v := .slice ao3 n1 cap3) rfl
    by_cases hin : i < n1
    · have hdi : decide ((i : Int) < (n1 : Int)) = true := by simp; omega
      have hip : i < pa'.length := by omega
      have hfm := hKS.own.form
      obtain ⟨g, rfl⟩ : ∃ g, ao3 = some ⟨g, 0, none⟩ := by
        rcases hfm with ⟨h1, h2⟩ | ⟨g, cap, cells, h1, _⟩
        · rw [h2] at hip; cases hip
        · simp only [Value.slice.injEq] at h1
          exact ⟨g, h1.1⟩
      obtain ⟨p, hp⟩ : ∃ p, p = pa'[i] := ⟨_, rfl⟩
      have hpm : p ∈ pa' := by rw [hp]; exact List.getElem_mem hip
      obtain ⟨m, hm⟩ : ∃ m, m = p.x.fIn.length := ⟨_, rfl⟩
      have hc1 := (own_cell hKS.own encO_len hip (j := 1) (by omega)).1
      rw [← hp] at hc1
      have hc1' : wo.cell? ⟨g, i * 7 + 1, none⟩ = some (.slice p.ao m p.cap) := by rw [hm]; exact hc1
      clear hfm hc1
      have hm63 : m ≤ 9223372036854775807 := by
        have := (hKS.win p hpm).1
        unfold maxLen at this
        omega
      have hn63 : n1 ≤ 9223372036854775807 := by have := hz.out; omega
      replace hp := Lib.hid hp
      replace hm := Lib.hid hm
      replace hpl := Lib.hid hpl
      go_wp2_with fail
      go_loopw [11] (fun x11 wi => ∃ (k : Nat), k ≤ m ∧ x11 = .int .i64 k ∧ KS w7.heap.size lc (.slice (some ⟨g, 0, none⟩) n1 cap3) w11 wi pa') (fun x11 _ => m - (intOf x11).toNat)
      case atStart => exact ⟨0, Nat.zero_le _, rfl, hKS⟩
      case round =>
        clear hKS hA ea hc1'
        obtain ⟨k, hk, rfl, hKS⟩ := hrel
        have hA := hA11.chg hKS.chg (fun h => by omega)
        have ea := hA.cellAt (i := 6) (v := .slice (some ⟨g, 0, none⟩) n1 cap3) rfl
        have hc1 := (own_cell hKS.own encO_len hip (j := 1) (by omega)).1
        rw [← hp.out] at hc1
        have hc1' : wr.cell? ⟨g, i * 7 + 1, none⟩ = some (.slice p.ao m p.cap) := by rw [hm.out]; exact hc1
        clear hc1
        by_cases hkm : k < m
        · have hdk : decide ((k : Int) < (m : Int)) = true := by simp; omega
          obtain ⟨b, cells, T, hb1, _, hb3, hb4⟩ := (hKS.win p hpm).2 (by rw [← hm.out]; omega)
          have hcb : wr.cell? ⟨b, k, none⟩ = some cells[k]! := by
            rw [hb3.cell]
            have : k < cells.size := by have := hm.out; omega
            simp [this]
          have hfb := hb3.frozen k
          have hK2 := hKS.setIn hpm hb1 (k := k) (by rw [← hm.out]; exact hkm) (.int .i64 (-9))
          rw [hb1] at hc1'
          clear hKS hA hb3 hb4
          go_wp2_with fail
          go_roundw
          case rel => exact ⟨k + 1, by omega, rfl, hK2⟩
          case measure => simp [intOf]; omega
        · have hdk : decide ((k : Int) < (m : Int)) = false := by simp; omega
          have hc0 := own_cell hKS.own encO_len hip (j := 0) (by omega)
          rw [← hp.out] at hc0
          have hc0' : wr.cell? ⟨g, i * 7, none⟩ = some (.int .i64 p.x.fKind) := hc0.1
          have hf0 := hc0.2 (i * 7)
          have hK2 := hKS.setKind ((hgl.out g rfl).2) hip
          rw [Nat.add_zero] at hK2
          clear hKS hA hc0
          go_wp2_with fail
          go_roundw
          case rel => exact ⟨i + 1, _, by omega, rfl, by rw [List.length_set]; exact hpl.out, hK2⟩
          case measure => simp [intOf]; omega
    · have hdi : decide ((i : Int) < (n1 : Int)) = false := by simp; omega
      obtain ⟨jO, hiO, hO0, hO1, hO2⟩ := info_parts infoO
      obtain ⟨p8, hp8⟩ : ∃ p : POp, p = ⟨⟨-8, [], 0, 0, 0, 0, 0⟩, none, 0⟩ := ⟨_, rfl⟩
      have hpe : (#[.int .i64 (-8), .slice none 0 0, .int .i64 0, .int .u32 0, .int .i64 0, .int .i64 0, .int .u32 0] : Array Value) = (encO p8).toArray := by rw [hp8]; rfl
      have hso : w7.heap.size ≤ wo.heap.size := by have := hKS.chg.size; omega
      replace hpe := Lib.hid hpe
      clear hp8 hA
      replace hpl := Lib.hid hpl
      go_wp2_with (at_builtin; refine Shut.out ?k8)
      unfold Shut
      rw [hpe.out]
      refine wpList_app1g rfl _ _ 25 rfl Try.underlying25 hiO hO0 hO1 hO2 rfl (by decide) (enc := encO) p8 rfl hKS.own rfl (encO_len _) (encO_one _) (by rw [hpl.out]; have := hz.out; omega) (by rw [hpl.out]; have := hz.out; unfold maxLen; omega) hso (fun g cap7 w12 hown12 hgr12 => ?_)
      rw [hpl.out] at hown12 hgr12 ⊢
      have hgc : Chg (fun k => w7.heap.size ≤ k ∧ k < lc) wo w12 := (Chg.of_grown hgr12.grown).mono (fun k h1 h2 => hgl.out k h2)
      have hc12 := hKS.chg.trans hgc
      have hA12 := hA11.chg hc12 (fun h => by omega)
      have e7 := hA12.cellAt (i := 6) (v := .slice ao3 n1 cap3) rfl
      have f7 := hA12.frozen 6
      have hc13 := (hc12.mono (T := fun k => w7.heap.size ≤ k ∧ k ≤ lc) (fun k _ h => ⟨h.1, by omega⟩)).setCell ⟨lc, 6, none⟩ (.slice (some ⟨g, 0, none⟩) (n1 + 1) cap7) (fun _ => ⟨h7c, Nat.le_refl _⟩)
      clear hgc hc12 hA12 hown12 hgr12 hKS ea
      go_upto_region 19 with fail
      refine Code.wp_world ?_
      intro w13 hw13
      rw [← hw13] at hc13
      have hB13 := hB11.chg hc13 (fun h => by omega)
      have hM13 := hM11.chg hc13 (fun h => by omega)
      obtain ⟨ao4', cap4', hv', hslb⟩ := (hopb11.out.chg hc13 (fun k hk e => by omega)).sla
      have hpbl : pb.length = n1 := by rw [hnn1.out, ← hpb.out, List.length_map]
      simp only [Value.slice.injEq] at hv'
      obtain ⟨rfl, -, rfl⟩ := hv'
      rw [hpb.out] at hslb
      have hb5w : Below w5.heap.size w11 w13 := hc13.below hbB11.size (fun k hk => by omega)
      have hslw := ops_imp hsl211.out hb5w
      have hb513 := hbB11.trans hb5w
      have hSm := esame_any w13.heap.size x x ao4 ao2 cap4 cap2 w13 (Nat.le_refl _) hslb (hslw.imp (Below.refl _ _) hb513.size (fun _ _ _ h => h.imp (Below.refl _ _) hb513.size))
      unfold encE at hSm
      rw [← hnn1.out] at hSm
      clear hw13 hc13 hslb hslw hb5w hopb11 hsl211 hA11 hB11 hM11 e7 f7 hpbl
      obtain ⟨c0, c1, c2, c3, c4, c5, c6, c7⟩ := blk8 hB13
      obtain ⟨e0, e1, e2, e3, e4, e5, e6, e7⟩ := blk8 hM13
      go_wp2_with (go_at_call 15; refine Shut.out ?k9)
      unfold Shut
      refine hSm.mono ?_
      rintro e w14 ⟨⟨g, rfl, hg⟩, hb1314⟩
      obtain rfl : g = true := hg.2 (by trivial)
      dsimp only
      have hfin := hb5.trans ((hb513.trans (hb1314.mono hb513.size)).mono hb5.size)
      clear hSm hg c0 c1 c2 c3 c4 c5 c6 c7 e0 e1 e2 e3 e4 e5 e6 e7
      go_wp2_with fail
      go_ret
      exact ⟨by simp, hfin⟩
end Go.Proofs.Ytcigbobihkkdiaa
namespace Go.Proofs.Ytcigbobihkkdiaa
open Go.RowKit
theorem ekeeps_row {w : World} (c0 : Array Value) (x0 : TEntry) (h0 : REntry w.heap.size w (Value.cells (.agg c0)).toList x0) (hz : x0.fGraph.fOps.length * 72 ≤ reachBytes) (hzi : ∀ o ∈ x0.fGraph.fOps, o.fIn.length * 8 ≤ reachBytes) :
    Calls Try.prog 6 #[.agg c0] w fun e w' => e = .returned (.bool true) ∧ Below w.heap.size w w' := by
  obtain ⟨ao, cap, rfl, hs, hw, _⟩ := eagg h0
  exact ekeeps_walk _ _ _ _ hs hw hz (fun o ho => Nat.le_trans (hzi o ho) (by decide))
end Go.Proofs.Ytcigbobihkkdiaa
