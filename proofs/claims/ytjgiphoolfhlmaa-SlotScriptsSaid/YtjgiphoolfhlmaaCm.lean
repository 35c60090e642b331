/- Slot: what a file holds; plain law. -/
import Derived.Test.YtjgiphoolfhlmaaCj
import Derived.Test.YtjgiphoolfhlmaaWlaw
import Derived.Test.YtjgiphoolfhlmaaWh
namespace Go.Proofs.Ytjgiphoolfhlmaa
open Go.RowKit
attribute [local go_sem] Oper.semAt_some
set_option linter.unusedVariables false
set_option linter.unusedSimpArgs false

/-- The two items of a version and a value. -/
def itmsC (n : Nat) (s : ByteArray) : List Itm := [.mk 0 n ⟨#[]⟩ [], .mk 1 0 s []]
def payN (n : Nat) (s : ByteArray) : List Nat := encL (itmsC n s)
def payC (n : Nat) (s : ByteArray) : List UInt8 := (payN n s).map UInt8.ofNat
theorem chk_itms {n : Nat} {s : ByteArray} (hn : n ≤ 9223372036854775807) (hs : s.size ≤ 60000) : (chkL (itmsC n s) 1 0).2 = 0 := by
  unfold itmsC
  simp [chkL, chkI, formI, show (⟨#[]⟩ : ByteArray) = ByteArray.empty from rfl]
theorem digs_len10 (n : Nat) : (digs n).length ≤ 10 := digsF_len 10 n
theorem payN_len {n : Nat} {s : ByteArray} (hs : s.size ≤ 60000) : (payN n s).length ≤ 60050 := by
  have h1 := digs_len10 (zig n)
  have h2 := digs_len10 s.size
  have h3 : (txtB s).length = s.size := by unfold txtB; rw [List.length_map]; rfl
  unfold payN itmsC
  simp only [encL, encI, List.length_append, List.length_cons, List.length_nil, if_true, if_neg (show ¬ (1 : Int) = 0 by decide)]
  omega
theorem enc_itms {n : Nat} {s : ByteArray} (hn : n ≤ 9223372036854775807) (hs : s.size ≤ 60000) : encV (itmsC n s) = (0, payN n s) := by
  unfold encV
  rw [if_neg (by rw [chk_itms hn hs]; simp), if_neg]
  · rfl
  · have := payN_len (n := n) hs
    unfold payN at this
    have h2 : sizL (itmsC n s) = s.size := by unfold itmsC; simp [sizL, sizI]; rfl
    omega
theorem wf_itms {n : Nat} {s : ByteArray} (hn : n ≤ 9223372036854775807) (hs : s.size ≤ 60000) : wfL (itmsC n s) := by
  unfold itmsC
  simp only [wfL, wfI, List.length_nil]
  exact ⟨⟨by omega, by omega, by decide, by omega, trivial⟩, ⟨by omega, by omega, by omega, by omega, trivial⟩, trivial⟩
theorem dec_itms {n : Nat} {s : ByteArray} (hn : n ≤ 9223372036854775807) (hs : s.size ≤ 60000) : decV (payN n s) = (0, itmsC n s) := by
  have h := dec_enc (wf_itms hn hs) (by rw [enc_itms hn hs])
  rw [enc_itms hn hs] at h
  exact h
theorem payN_lt {n : Nat} {s : ByteArray} (hn : n ≤ 9223372036854775807) (hs : s.size ≤ 60000) : ∀ x ∈ payN n s, x < 256 := by
  have := encV_lt (itmsC n s)
  rw [enc_itms hn hs] at this
  exact this
theorem payC_nat {n : Nat} {s : ByteArray} (hn : n ≤ 9223372036854775807) (hs : s.size ≤ 60000) : (payC n s).map UInt8.toNat = payN n s := by
  unfold payC
  rw [List.map_map]
  refine List.map_congr_left (fun x hx => ?_) |>.trans (List.map_id _)
  have := payN_lt hn hs x hx
  simp [UInt8.toNat_ofNat']
  omega
theorem payC_len {n : Nat} {s : ByteArray} (hs : s.size ≤ 60000) : (payC n s).length ≤ 60050 := by
  unfold payC
  rw [List.length_map]
  exact payN_len hs
/-- Rows of bytes, as numbers and as bytes. -/
theorem ownB_U {w : World} {base : Nat} {v : Value} {bs : List UInt8} : OwnB w base v (bs.map UInt8.toNat) ↔ OwnL encU w base 5 1 v bs := by
  have h : (bs.map UInt8.toNat).flatMap encB = bs.flatMap encU := by rw [List.flatMap_map]; rfl
  unfold OwnB OwnL
  rw [h, List.length_map]
theorem slaU_B {B : Nat} {w : World} {ao : Option Addr} {cap : Nat} {bs : List UInt8} (h : SlA B 1 EU w ao cap bs) : RBy B w ao cap (bs.map UInt8.toNat) := by
  obtain ⟨h1, h2, h3, h4⟩ := h
  refine ⟨by rw [List.length_map]; exact h1, h2, h3, fun hne => ?_⟩
  obtain ⟨b, off, h5, h6, h7⟩ := h4 (fun e => hne (by rw [e]; rfl))
  refine ⟨b, off, h5, h6, fun i hi => ?_⟩
  have hi' : i < bs.length := by simpa using hi
  obtain ⟨cs, h8, h9, h10⟩ := h7 i hi'
  exact ⟨cs, h8, h9, by rw [h10, List.getElem_map]; rfl⟩
end Go.Proofs.Ytjgiphoolfhlmaa

/- Slot: its files' names; items. -/
namespace Go.Proofs.Ytjgiphoolfhlmaa
open Go.RowKit
attribute [local go_sem] Oper.semAt_some
set_option linter.unusedVariables false
set_option linter.unusedSimpArgs false

/-- A slot as it lies. -/
def SlotB (w : World) (sb db : Nat) (nm v : ByteArray) (n : Nat) (inn : Int) (br : Bool) : Prop := Blk w sb #[.pointer (some ⟨db, 0, none⟩), .string nm, .string v, .int .i64 n, .int .i64 inn, .bool br] 57
def sufC (i : Nat) : ByteArray := if i = 0 then ⟨#[45, 97]⟩ else ⟨#[45, 98]⟩

theorem add_suf (nm s : ByteArray) (h : nm.size ≤ 1000) (hs : s.size ≤ 1000) : Op.stringOp .add nm s = pure (.string (nm ++ s)) := by
  unfold Op.stringOp
  simp only
  rw [if_neg (by have : IntKind.i64.max = 9223372036854775807 := by decide
                 rw [this]; omega)]

set_option maxRecDepth 100000 in
set_option maxHeartbeats 1000000 in
theorem file_any0 (sb db : Nat) (nm v : ByteArray) (n : Nat) (inn : Int) (br : Bool) (w : World) (h : SlotB w sb db nm v n inn br) (hnm : nm.size ≤ 12) :
    Calls Try.prog 25 #[.pointer (some ⟨sb, 0, none⟩), .int .i64 (0 : Nat)] w fun e w' => e = .returned (.string (nm ++ sufC 0)) ∧ Below w.heap.size w w' := by
  have c1 : w.cell? ⟨sb, 1, none⟩ = some (.string nm) := h.cellAt rfl
  have hl := h.lt
  have hadd := add_suf nm ⟨#[45, 97]⟩ (by omega) (by decide)
  have hb := ((belowAlloc w.drew (.cells #[.string ⟨#[45, 97]⟩, .string ⟨#[45, 98]⟩] 9)))
  have hb2 : Below w.heap.size w (w.alloc (.cells #[.string ⟨#[45, 97]⟩, .string ⟨#[45, 98]⟩] 9)).drew := (belowAlloc w _).drew
  have hsf : nm ++ ⟨#[45, 97]⟩ = nm ++ sufC 0 := rfl
  replace hsf := Lib.hid hsf
  replace hb2 := Lib.hid hb2
  clear h
  go_enter Try.func25, Try.ntmps25
  go_upto_region 1 with fail
  go_region_with (fail)
  all_goals (go_wp2_with fail; go_ret)
  all_goals exact ⟨rfl, hb2⟩
set_option maxRecDepth 100000 in
set_option maxHeartbeats 1000000 in
theorem file_any1 (sb db : Nat) (nm v : ByteArray) (n : Nat) (inn : Int) (br : Bool) (w : World) (h : SlotB w sb db nm v n inn br) (hnm : nm.size ≤ 12) :
    Calls Try.prog 25 #[.pointer (some ⟨sb, 0, none⟩), .int .i64 (1 : Nat)] w fun e w' => e = .returned (.string (nm ++ sufC 1)) ∧ Below w.heap.size w w' := by
  have c1 : w.cell? ⟨sb, 1, none⟩ = some (.string nm) := h.cellAt rfl
  have hl := h.lt
  have hadd := add_suf nm ⟨#[45, 98]⟩ (by omega) (by decide)
  have hb := ((belowAlloc w.drew (.cells #[.string ⟨#[45, 97]⟩, .string ⟨#[45, 98]⟩] 9)))
  have hb2 : Below w.heap.size w (w.alloc (.cells #[.string ⟨#[45, 97]⟩, .string ⟨#[45, 98]⟩] 9)).drew := (belowAlloc w _).drew
  have hsf : nm ++ ⟨#[45, 98]⟩ = nm ++ sufC 1 := rfl
  replace hsf := Lib.hid hsf
  replace hb2 := Lib.hid hb2
  clear h
  go_enter Try.func25, Try.ntmps25
  go_upto_region 1 with fail
  go_region_with (fail)
  all_goals (go_wp2_with fail; go_ret)
  all_goals exact ⟨rfl, hb2⟩
end Go.Proofs.Ytjgiphoolfhlmaa

/- Slot: what one of its files is read as. -/
namespace Go.Proofs.Ytjgiphoolfhlmaa
open Go.RowKit
attribute [local go_sem] Oper.semAt_some
set_option linter.unusedVariables false
set_option linter.unusedSimpArgs false

/-- What a file's bytes say. -/
def HeldIs (bs : List UInt8) (n : Nat) (v : ByteArray) : Prop := (bs = [] ∧ n = 0 ∧ v = ⟨#[]⟩) ∨ (1 ≤ n ∧ n ≤ 9223372036854775807 ∧ v.size ≤ 60000 ∧ ∃ tail, bs = frameC (payC n v) ++ tail)

theorem file_any {sb db i : Nat} {nm v : ByteArray} {n : Nat} {inn : Int} {br : Bool} (w : World) (h : SlotB w sb db nm v n inn br) (hnm : nm.size ≤ 12) (hi : i < 2) :
    Calls Try.prog 25 #[.pointer (some ⟨sb, 0, none⟩), .int .i64 i] w fun e w' => e = .returned (.string (nm ++ sufC i)) ∧ Below w.heap.size w w' := by
  rcases (by omega : i = 0 ∨ i = 1) with rfl | rfl
  · exact file_any0 sb db nm v n inn br w h hnm
  · exact file_any1 sb db nm v n inn br w h hnm
theorem suf_len {nm : ByteArray} (i : Nat) (h : nm.size ≤ 12) : (nm ++ sufC i).size ≤ 14 := by
  rw [ByteArray.size_append]
  have : (sufC i).size = 2 := by unfold sufC; split <;> rfl
  omega

set_option maxRecDepth 100000 in
set_option maxHeartbeats 4000000 in
theorem sread_any {base b sb N i : Nat} {x : DX} {M : DM} (nm v0 : ByteArray) (n0 : Nat) (in0 : Int) (br : Bool) (n : Nat) (v : ByteArray) (w : World) (hi : i < 2) (hS : SlotB w sb b nm v0 n0 in0 br) (hnm : nm.size ≤ 12) (hD : Dsk w base b x M) (hok : OkM N M) (hh : HeldIs (bytesOf M.now (nm ++ sufC i)) n v) :
    Calls Try.prog 19 #[.pointer (some ⟨sb, 0, none⟩), .int .i64 i] w fun e w' => e = .returned (.tuple #[.string v, .int .i64 n]) ∧ Below w.heap.size w w' := by
  have c0 : w.cell? ⟨sb, 0, none⟩ = some (.pointer (some ⟨b, 0, none⟩)) := hS.cellAt rfl
  have hl := hS.lt
  have hfile : Hid (∀ wy, Below w.heap.size w wy → Calls Try.prog 25 #[.pointer (some ⟨sb, 0, none⟩), .int .i64 i] wy fun e w' => e = .returned (.string (nm ++ sufC i)) ∧ Below wy.heap.size wy w') := Lib.hid (fun wy hy => file_any wy (hS.below hy hl) hnm hi)
  have hsz := suf_len i hnm
  obtain ⟨fn, hfn⟩ : ∃ fn, fn = nm ++ sufC i := ⟨_, rfl⟩
  rw [← hfn] at hfile hh hsz
  have hrd : Hid (∀ wy, Below w.heap.size w wy → Calls Try.prog 14 #[.pointer (some ⟨b, 0, none⟩), .string fn] wy fun e w' => ∃ v, e = .returned (.tuple #[v, .bool (getL M.now fn).isSome]) ∧ OwnL encU w' wy.heap.size 5 1 v (bytesOf M.now fn) ∧ Below wy.heap.size wy w') := Lib.hid (fun wy hy => read_any fn wy (by unfold maxLen; omega) (hD.below hy) hok)
  generalize (getL M.now fn).isSome = is at hrd
  generalize bytesOf M.now fn = bs at hrd hh
  clear hS hD hok hfn
  go_enter Try.func19, Try.ntmps19
  go_upto_region 1 with fail
  refine wp_region_tree (fun wx => wx.cell? ⟨sb, 0, none⟩ = some (.pointer (some ⟨b, 0, none⟩))) 12 13 (by kernel_rfl) rfl (by kernel_rfl) (fun d _ _ _ _ h => by cases d <;> exact h) (c0) (fun opz T hOps hT hTok hHeld => ?_)
  (refine wpTree_q 0 hTok hOps (by kernel_rfl) rfl rfl ⟨?_, ?_, ?_⟩; rotate_left; (focus (intro wx hSx; (try dsimp only at hSx); go_simp; (try with_reducible rfl))); (simp only [Act.put, List.setIfInBounds_toArray, List.set_cons_zero, List.set_cons_succ]))
  (refine wpTree_q 1 hTok hOps (by kernel_rfl) rfl rfl ⟨?_, ?_, ?_⟩; rotate_left; (focus (intro wx hSx; (try dsimp only at hSx); go_simp; (try with_reducible rfl))); (simp only [Act.put, List.setIfInBounds_toArray, List.set_cons_zero, List.set_cons_succ]))
  (refine wpTree_q 2 hTok hOps (by kernel_rfl) rfl rfl ⟨?_, ?_, ?_⟩; rotate_left; (focus (intro wx hSx; (try dsimp only at hSx); go_simp; (try with_reducible rfl))); (simp only [Act.put, List.setIfInBounds_toArray, List.set_cons_zero, List.set_cons_succ]))
  (refine wpTree_q 3 hTok hOps (by kernel_rfl) rfl rfl ⟨?_, ?_, ?_⟩; rotate_left; (focus (intro wx hSx; (try dsimp only at hSx); go_simp; (try with_reducible rfl))); (simp only [Act.put, List.setIfInBounds_toArray, List.set_cons_zero, List.set_cons_succ]))
  (refine wpTree_q 4 hTok hOps (by kernel_rfl) rfl rfl ⟨?_, ?_, ?_⟩; rotate_left; (focus (intro wx hSx; (try dsimp only at hSx); go_simp; (try with_reducible rfl))); (simp only [Act.put, List.setIfInBounds_toArray, List.set_cons_zero, List.set_cons_succ]))
  (refine wpTree_q 5 hTok hOps (by kernel_rfl) rfl rfl ⟨?_, ?_, ?_⟩; rotate_left; (focus (intro wx hSx; (try dsimp only at hSx); go_simp; (try with_reducible rfl))); (simp only [Act.put, List.setIfInBounds_toArray, List.set_cons_zero, List.set_cons_succ]))
  refine wpTree_1 6 hOps (by kernel_rfl) (by decide) rfl (fun K' hK => ?_)
  go_simp
  refine (hfile.out _ ((Below.refl _ _).drew)).mono ?_
  rintro e w1 ⟨rfl, hb1d⟩
  have hb1 : Below w.heap.size w w1 := ((Below.refl _ _).drew).trans (hb1d.mono (Nat.le_refl _))
  have c01 := cell_later hb1 c0
  dsimp only
  refine hK.out _ _ c01 ?_
  clear hK K'
  try simp only [Act.put, List.setIfInBounds_toArray, List.set_cons_zero, List.set_cons_succ]
  refine wpTree_1 7 hOps (by kernel_rfl) (by decide) rfl (fun K' hK => ?_)
  go_simp
  refine (hrd.out _ hb1).mono ?_
  rintro e w2 ⟨vb, rfl, hO2, hb2d⟩
  have hb2 : Below w.heap.size w w2 := hb1.trans (hb2d.mono hb1.size)
  have c02 := cell_later hb2 c0
  dsimp only
  refine hK.out _ _ c02 ?_
  clear hK K'
  try simp only [Act.put, List.setIfInBounds_toArray, List.set_cons_zero, List.set_cons_succ]
  (refine wpTree_qg 8 hTok hOps (by kernel_rfl) rfl rfl ⟨?_, ?_, ?_⟩; rotate_left; (focus (intro wx hSx; (try dsimp only at hSx); go_simp; (try with_reducible rfl))); (simp only [Act.put, List.setIfInBounds_toArray, List.set_cons_zero, List.set_cons_succ]))
  (refine wpTree_qg 9 hTok hOps (by kernel_rfl) rfl rfl ⟨?_, ?_, ?_⟩; rotate_left; (focus (intro wx hSx; (try dsimp only at hSx); go_simp; (try with_reducible rfl))); (simp only [Act.put, List.setIfInBounds_toArray, List.set_cons_zero, List.set_cons_succ]))
  (refine wpTree_qg 10 hTok hOps (by kernel_rfl) rfl rfl ⟨?_, ?_, ?_⟩; rotate_left; (focus (intro wx hSx; (try dsimp only at hSx); go_simp; (try with_reducible rfl))); (simp only [Act.put, List.setIfInBounds_toArray, List.set_cons_zero, List.set_cons_succ]))
  (refine wpTree_qg 11 hTok hOps (by kernel_rfl) rfl rfl ⟨?_, ?_, ?_⟩; rotate_left; (focus (intro wx hSx; (try dsimp only at hSx); go_simp; (try with_reducible rfl))); (simp only [Act.put, List.setIfInBounds_toArray, List.set_cons_zero, List.set_cons_succ]))
  refine wpTree_nil hOps (by kernel_rfl) ?_
  refine hT.out _ _ ?_
  simp only [List.drop_succ_cons, List.drop_zero]
  clear hOps hT hTok hHeld
  clear hfile hrd c0 c01 c02 hb1 hb1d hb2d
  obtain ⟨ao, cap, rfl, hs2⟩ := rdsOwn hO2
  rcases hh with ⟨rfl, rfl, rfl⟩ | ⟨hn1, hn2, hv, tail, rfl⟩
  · have hnx := fnext_nil w2 ao cap
    change Calls Try.prog 34 #[.slice ao ([] : List UInt8).length cap, .int .i64 0] w2 _ at hnx
    clear hs2 hO2
    go_wp2_with fail
    refine hnx.mono ?_
    rintro e w3 ⟨rfl, rfl⟩
    clear hnx
    dsimp only
    go_wp2_with fail
    go_ret2
    exact ⟨rfl, hb2⟩
  · have hpl := payC_len (n := n) hv
    have hpo := payC_nat (n := n) hn2 hv
    have hlt := payN_lt (n := n) hn2 hv
    have hde := dec_itms (n := n) hn2 hv
    have hne : 0 < (frameC (payC n v) ++ tail).length := by rw [List.length_append, frameC_len]; omega
    obtain ⟨b1, o1, rfl, hb1', _⟩ := hs2.addr hne
    have hnx := fnext_any b1 o1 cap (payC n v) tail w2 hs2 (by omega)
    have hdc := fun (a3 : Option Addr) (c3 : Nat) (w3 : World) (h3 : SlA w3.heap.size 1 EU w3 a3 c3 (payC n v)) => decode_any (payN n v) hlt a3 c3 w3 (by have := slaU_B h3; rw [hpo] at this; exact this)
    rw [hde] at hdc
    have hpn : (payN n v).length = (payC n v).length := by rw [← hpo, List.length_map]
    rw [hpn] at hdc
    generalize payC n v = pc at hnx hdc hs2 hO2 hpl ⊢
    generalize frameC pc ++ tail = fc at hnx hs2 hO2 hne ⊢
    obtain ⟨m, hm⟩ : ∃ m, m = fc.length := ⟨_, rfl⟩
    rw [← hm] at hnx ⊢
    obtain ⟨k, hk⟩ : ∃ k, k = pc.length := ⟨_, rfl⟩
    rw [← hk] at hnx hdc
    clear hpo hlt hde hpn hs2 hO2 hne hm
    replace hdc := Lib.hid hdc
    replace hk := Lib.hid hk
    go_wp2_with fail
    refine hnx.mono ?_
    rintro e w3 ⟨v3, rfl, hO3, hb3d⟩
    have hb3 : Below w.heap.size w w3 := hb2.trans (hb3d.mono hb2.size)
    obtain ⟨a3, c3, rfl, hs3⟩ := rdsOwn hO3
    have hdc3 := hdc.out a3 c3 w3 hs3
    rw [← hk.out]
    clear hnx hdc hO3 hs3 hb3d
    dsimp only
    go_wp2_with fail
    refine hdc3.mono ?_
    rintro e w4 ⟨hb4d, a4, c4, rfl, hi4⟩
    have hb4 : Below w.heap.size w w4 := hb3.trans (hb4d.mono hb3.size)
    have hr4 := hi4.rits (B := w4.heap.size) (fun b h => h.2)
    obtain ⟨b5, e5, _, _⟩ := hi4.1.2.2.2 (by unfold itmsC; exact List.cons_ne_nil _ _)
    obtain rfl := e5
    obtain ⟨_, _, _, -, i00, i01, -, -, -, -, -, -⟩ := hr4.at (i := 0) (by unfold itmsC; simp) (by unfold itmsC; rfl)
    obtain ⟨_, _, _, -, i10, -, i12, -, -, -, -, -⟩ := hr4.at (i := 1) (by unfold itmsC; simp) (by unfold itmsC; rfl)
    have hl2 : (itmsC n v).length = 2 := rfl
    dsimp only
    rw [hl2]
    clear hdc3 hr4 hi4 hb4d
    have d1 : decide ((n : Int) < 1) = false := by simp; omega
    replace i00 : w4.cell? ⟨b5, 0, none⟩ = some (.int .i64 0) := i00
    replace i01 : w4.cell? ⟨b5, 1, none⟩ = some (.int .i64 n) := i01
    replace i10 : w4.cell? ⟨b5, 4, none⟩ = some (.int .i64 1) := i10
    replace i12 : w4.cell? ⟨b5, 6, none⟩ = some (.string v) := i12
    clear hl2
    have hbe : Below w.heap.size w w4.drew := hb4.drew
    go_upto_region 8 with fail
    go_region_with (fail)
    all_goals (go_wp2_with fail; go_ret2)
    all_goals exact ⟨rfl, hbe⟩
end Go.Proofs.Ytjgiphoolfhlmaa
