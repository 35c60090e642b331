/- Disk: DiskSynced: the walk. -/
import Derived.Test.YtjhbeahkojippaaDo
import Derived.IntWalk
namespace Go.Proofs.Ytjhbeahkojippaa
open Go.RowKit
attribute [local go_sem] Oper.semAt_some
set_option linter.unusedVariables false
set_option linter.unusedSimpArgs false

theorem nm_cells {i : Nat} (hi : i < 20) : ([.int .u8 102, .int .u8 (97 + (i : Int))] : List Value) = cellsU [102, UInt8.ofNat (97 + i)] := by
  have h1 : (UInt8.ofNat (97 + i)).toNat = 97 + i := by
    rw [UInt8.toNat_ofNat']
    omega
  unfold cellsU
  simp only [List.map_cons, List.map_nil]
  rw [h1, show ((97 + i : Nat) : Int) = 97 + (i : Int) by omega]
  rfl
set_option maxRecDepth 100000 in
theorem nm_text {i : Nat} (hi : i < 20) (wz : World) : (convert 23 9 (.slice (some ⟨wz.heap.size, 0, none⟩) 2 2)).run Try.prog (wz.alloc (.cells #[.int .u8 102, .int .u8 (97 + (i : Int))] 5)) = .ok (.string (nm i)) (wz.alloc (.cells #[.int .u8 102, .int .u8 (97 + (i : Int))] 5)) :=
  textU (sla_const wz #[.int .u8 102, .int .u8 (97 + (i : Int))] (0, 0) [102, UInt8.ofNat (97 + i)] (nm_cells hi) (by simp [maxLen]))
/-- A row of bytes as it came in, sized. -/
def RFi (B : Nat) (w : World) (cs : List Value) (d : List UInt8) : Prop := RSl B 1 EU w cs d ∧ d.length ≤ 140737488355328
/-- A row of rows of bytes: one of them. -/
theorem rows_get {B : Nat} {w : World} {ao : Option Addr} {cap : Nat} {fs : List (List UInt8)} (h : SlA B 1 (RFi B) w ao cap fs) {i : Nat} (hi : i < fs.length) : ∃ b1 o1, ao = some ⟨b1, o1, none⟩ ∧ b1 < B ∧ ∃ ai ci, w.cell? ⟨b1, o1 + i, none⟩ = some (.slice ai fs[i].length ci) ∧ SlA B 1 EU w ai ci fs[i] ∧ fs[i].length ≤ 140737488355328 := by
  obtain ⟨b1, o1, rfl, hb1, _⟩ := h.addr (by omega)
  obtain ⟨cs, hl, h6, ⟨ai, ci, rfl, h7⟩, h9⟩ := h.get i hi
  have h8 := h6 0 (by omega)
  exact ⟨b1, o1, rfl, hb1, ai, ci, by simpa using h8, h7, h9⟩

set_option maxRecDepth 100000 in
set_option maxHeartbeats 8000000 in
theorem synced_le (ao : Option Addr) (cap : Nat) (fs : List (List UInt8)) (ea : Option Addr) (ec : Nat) (extra : List UInt8) (pa : Option Addr) (pc : Nat) (picks : List Int) (w : World)
    (hf : SlA w.heap.size 1 (RFi w.heap.size) w ao cap fs) (he : SlA w.heap.size 1 EU w ea ec extra) (hp : SlA w.heap.size 1 (RI .i64) w pa pc picks) (helen : extra.length ≤ 140737488355328) (h20 : fs.length ≤ 20) :
    Calls Try.prog 3 #[.slice ao fs.length cap, .slice ea extra.length ec, .slice pa picks.length pc] w fun e w' => e = .returned (.bool true) ∧ Below w.heap.size w w' := by
    have hflen := hf.len
    obtain ⟨n, hn⟩ : ∃ n, n = fs.length := ⟨_, rfl⟩
    obtain ⟨m, hm⟩ : ∃ m, m = extra.length := ⟨_, rfl⟩
    obtain ⟨pl, hpl⟩ : ∃ pl, pl = picks.length := ⟨_, rfl⟩
    rw [← hn] at hflen h20 ⊢
    rw [← hm] at helen ⊢
    rw [← hpl]
    have hrow : ∀ i, i < n → ∃ b1 o1, ao = some ⟨b1, o1, none⟩ ∧ b1 < w.heap.size ∧ ∃ ai ci d, fs[i]? = some d ∧ w.cell? ⟨b1, o1 + i, none⟩ = some (.slice ai d.length ci) ∧ SlA w.heap.size 1 EU w ai ci d ∧ d.length ≤ 140737488355328 ∧ lens (fs.take (i + 1)) = lens (fs.take i) + d.length := fun i hi => by
      have hi2 : i < fs.length := by rw [← hn]; exact hi
      obtain ⟨b1, o1, h1, h2, ai, ci, h3, h4, h5⟩ := rows_get hf hi2
      exact ⟨b1, o1, h1, h2, ai, ci, fs[i], List.getElem?_eq_getElem hi2, h3, h4, h5, lens_take hi2⟩
    replace hn := Lib.hid hn
    replace hm := Lib.hid hm
    replace hpl := Lib.hid hpl
    replace hrow := Lib.hid hrow
    replace he := Lib.hid he
    replace hp := Lib.hid hp
    clear hf
    go_enter Try.func3, Try.ntmps3
    go_wp2_with fail
    refine (known_any w).mono ?_
    rintro e w1 ⟨rfl, hb1⟩
    dsimp only
    go_wp2_with fail
    go_loopw [7, 8] (fun x7 x8 wr => ∃ i : Nat, i ≤ n ∧ i ≤ 20 ∧ x8 = .int .i64 i ∧ x7 = .int .i64 ((m + lens (fs.take i) : Nat) : Int) ∧ lens (fs.take i) ≤ i * 140737488355328 ∧ wr = w1) (fun x7 x8 _ => n - (intOf x8).toNat)
    case atStart => exact ⟨0, Nat.zero_le _, Nat.zero_le _, rfl, by simp [lens], by simp [lens], rfl⟩
    case round =>
      obtain ⟨i, hi, hi20, rfl, rfl, hle, rfl⟩ := hrel
      obtain ⟨s, hs⟩ : ∃ s, s = m + lens (fs.take i) := ⟨_, rfl⟩
      rw [← hs]
      have hs1 : s ≤ 2955487255461888 := by omega
      by_cases hlt : i < n ∧ i < 20
      · obtain ⟨b1, o1, rfl, hbl, ai, ci, d, hd, hc, hsd, hdl, htk⟩ := hrow.out i hlt.1
        obtain ⟨k, hk⟩ : ∃ k, k = d.length := ⟨_, rfl⟩
        rw [← hk] at hc hdl htk
        have cx := (hb1.cell (p := ⟨b1, o1 + i, none⟩) hbl).trans hc
        have d1 : decide ((i : Int) < (n : Int)) = true := by simp; omega
        have d2 : decide ((i : Int) < 20) = true := by simp; omega
        have hin := hlt.1
        have hi2 := hlt.2
        have hnext : m + lens (fs.take (i + 1)) = s + k := by omega
        have hnext2 : lens (fs.take (i + 1)) ≤ (i + 1) * 140737488355328 := by omega
        replace hnext := Lib.hid hnext
        replace hnext2 := Lib.hid hnext2
        replace hk := Lib.hid hk
        clear hs hle hd hsd htk hc hlt
        go_wp2_with fail
        go_roundw
        case rel => exact ⟨i + 1, by omega, by omega, by go_num, by rw [hnext.out]; go_num, hnext2.out, by first | rfl | trivial⟩
        case measure => simp [intOf]; omega
      · first
          | (have d1x : decide ((i : Int) < (n : Int)) = true := by simp; omega
             have d2x : decide ((i : Int) < 20) = false := by simp; omega
             have d3x : i < n := by omega
             have d4x : ¬ (i < 20) := by omega)
          | (have d1x : decide ((i : Int) < (n : Int)) = false := by simp; omega
             have d3x : ¬ (i < n) := by omega)
        have hcap : ∀ j, j ≤ i → m + lens (fs.take j) ≤ s := fun j hj => by
          have := lens_le fs hj
          omega
        have hin : ∀ j, (j < n ∧ j < 20) ↔ j < i := fun j => by omega
        replace hcap := Lib.hid hcap
        replace hin := Lib.hid hin
        clear hs hle hlt
        by_cases hbig : 134217728 < s
        · have d2 : decide ((134217728 : Int) < (s : Int)) = true := by simp; omega
          go_wp2_with fail
          go_ret
          exact ⟨rfl, hb1⟩
        · have d2 : decide ((134217728 : Int) < (s : Int)) = false := by simp; omega
          go_wp2_with fail
          refine (new_any 268435456 wr (by omega) (by omega)).mono ?_
          rintro e w2 ⟨b, x0, rfl, hD, hb2, _, _, _⟩
          obtain ⟨B0, hB0⟩ : ∃ B0, B0 = wr.heap.size := ⟨_, rfl⟩
          rw [← hB0] at hD hb2
          have hB0w : w.heap.size ≤ B0 := by rw [hB0]; exact hb1.size
          have hbw2 : Below w.heap.size w w2 := hb1.trans (hb2.mono hB0w)
          have hB02 : B0 ≤ w2.heap.size := by rw [hB0]; exact hb2.size
          have hS0 := Syn.zero fs
          have he63 := helen
          replace hB0 := Lib.hid hB0
          have hsb : s ≤ 134217728 := by omega
          clear hb1 hb2 hbig d2
          try clear d1x
          try clear d2x
          try clear d3x
          try clear d4x
          dsimp only
          go_wp2_with fail
          go_loopw [11] (fun x11 wr => ∃ (j : Nat) (M : DM) (x : DX), j ≤ i ∧ x11 = .int .i64 j ∧ Hid (Syn fs j M) ∧ Dsk wr B0 b x M ∧ Below w.heap.size w wr ∧ B0 ≤ wr.heap.size) (fun x11 _ => n - (intOf x11).toNat)
          case atStart => exact ⟨0, _, _, Nat.zero_le _, rfl, Lib.hid hS0, hD, hbw2, hB02⟩
          case round =>
            clear hS0 hD hbw2 hB02
            obtain ⟨j, M, x, hji, rfl, hS, hD, hbr, hBr⟩ := hrel
            by_cases hlt : j < i
            · obtain ⟨hjn, hj20⟩ := (hin.out j).2 hlt
              obtain ⟨b1, o1, rfl, hbl, ai, ci, d, hd, hc, hsd, hdl, htk⟩ := hrow.out j hjn
              have hjl : j < fs.length := by rw [← hn.out]; exact hjn
              have hfd : fs[j] = d := by
                rw [List.getElem?_eq_getElem hjl] at hd
                exact Option.some.inj hd
              have hcj := hcap.out (j + 1) (by omega)
              obtain ⟨e1, e2, e3⟩ := hS.out.step hjl hj20 (by omega)
              rw [hfd] at e1 e2 e3
              have okM := hS.out.ok
              have okW : OkM (2 * j + 1) (MW M j d) := by have := okM.write (nm j) 0 d; rwa [e1] at this
              have cx := (hbr.cell (p := ⟨b1, o1 + j, none⟩) hbl).trans hc
              have lx := World.lt_of_cell cx
              dsimp only at lx
              have d1 : decide ((j : Int) < (n : Int)) = true := by simp; omega
              have d2 : decide ((j : Int) < 20) = true := by simp; omega
              have htx := nm_text hj20 wr
              have hba := belowAlloc wr (.cells #[.int .u8 102, .int .u8 (97 + (j : Int))] 5)
              have hw := write_ok 0 (nm j) 0 ai ci d _ (by rw [nm_size]; decide) (hD.below hba) okM (by omega) (Nat.le_trans hBr hba.size) (hsd.imp (hbr.trans (hba.mono hbr.size)) (Nat.le_trans hbr.size hba.size) (fun cs x _ h => h)) hdl e1
              obtain ⟨k, hk⟩ : ∃ k, k = d.length := ⟨_, rfl⟩
              rw [← hk] at hw cx
              replace hk := Lib.hid hk
              replace okW := Lib.hid okW
              replace e1 := Lib.hid e1
              replace e2 := Lib.hid e2
              replace e3 := Lib.hid e3
              replace hba := Lib.hid hba
              clear hd hsd hc htk hS hfd hcj okM
              go_wp2_with fail
              refine hw.mono ?_
              rintro e w3 ⟨rfl, x3, hD3, hb3⟩
              have hbr3 : Below w.heap.size w w3 := (hbr.trans (hba.out.mono hbr.size)).trans (hb3.mono hB0w)
              have hB3 : B0 ≤ w3.heap.size := Nat.le_trans (Nat.le_trans hBr hba.out.size) hb3.size
              have hsy := sync_ok 0 (nm j) w3 (by rw [nm_size]; decide) hD3 okW.out (by omega) hB3 e2.out
              clear hw hb3 hba cx lx htx hbr hBr hD3 hD
              dsimp only
              go_wp2_with fail
              refine hsy.mono ?_
              rintro e w4 ⟨rfl, x4, hD4, hb4⟩
              have hbr4 := hbr3.trans (hb4.mono hB0w)
              have hB4 := Nat.le_trans hB3 hb4.size
              clear hsy hbr3 hB3 hb4
              dsimp only
              go_wp2_with fail
              go_roundw
              case rel => exact ⟨j + 1, _, x4, by omega, by go_num, e3, hD4, hbr4, hB4⟩
              case measure => simp [intOf]; omega
            · obtain rfl : j = i := by omega
              have hex : ¬ (j < n ∧ j < 20) := fun h => Nat.lt_irrefl _ ((hin.out j).1 h)
              first
                | (have d1x : decide ((j : Int) < (n : Int)) = true := by simp; omega
                   have d2x : decide ((j : Int) < 20) = false := by simp; omega
                   have d3x : j < n := by omega
                   have d4x : ¬ (j < 20) := by omega)
                | (have d1x : decide ((j : Int) < (n : Int)) = false := by simp; omega
                   have d3x : ¬ (j < n) := by omega)
              clear hex
              have okM := hS.out.ok
              have hwz := write_any zz 0 ea ec extra wr (by decide) hD okM (by omega) hBr (he.out.imp hbr hbr.size (fun cs x _ h => h)) (by rw [← hm.out]; exact helen)
              obtain ⟨M3, hM3⟩ : ∃ M3, M3 = (writeM M zz 0 extra).2 := ⟨_, rfl⟩
              rw [← hM3, ← hm.out] at hwz
              have okM3 : OkM (2 * j + 1) M3 := by rw [hM3]; exact okM.write zz 0 extra
              have hget : ∀ q, q < j → q < 20 → getL (crashM M3 picks).now (nm q) = fs[q]? := fun q h1 h2 => by rw [hM3]; exact hS.out.crash extra picks h1 h2
              obtain ⟨er, her⟩ : ∃ er, er = (writeM M zz 0 extra).1 := ⟨_, rfl⟩
              rw [← her] at hwz
              obtain ⟨M4, hM4⟩ : ∃ M4, M4 = crashM M3 picks := ⟨_, rfl⟩
              have okM4 : OkM (2 * j + 1) M4 := by rw [hM4]; exact okM3.crash picks
              have hpe : M4.chs.length = 0 := by rw [hM4]; rfl
              rw [← hM4] at hget
              replace hget := Lib.hid hget
              replace okM3 := Lib.hid okM3
              replace okM4 := Lib.hid okM4
              replace hpe := Lib.hid hpe
              replace hM4 := Lib.hid hM4
              clear hM3 her okM hS
              go_wp2_with fail
              refine hwz.mono ?_
              rintro e w3 ⟨rfl, hst⟩
              obtain ⟨x3, hD3, hb3⟩ := hst.to hD hBr
              have hbr3 : Below w.heap.size w w3 := hbr.trans (hb3.mono hB0w)
              have hB3 : B0 ≤ w3.heap.size := Nat.le_trans hBr hb3.size
              have hcr := crash_ok picks pa pc w3 hD3 okM3.out (by omega) hB3 (hp.out.imp hbr3 hbr3.size (fun cs x _ h => h))
              rw [← hpl.out, ← hM4.out] at hcr
              clear hwz hst hD3 hb3 hD hbr hBr
              dsimp only
              go_wp2_with fail
              refine hcr.mono ?_
              rintro e w4 ⟨⟨v4, rfl⟩, x4, hD4, hb4⟩
              have hbr4 := hbr3.trans (hb4.mono hB0w)
              have hB4 := Nat.le_trans hB3 hb4.size
              clear hcr hbr3 hB3 hb4
              try clear d1x
              try clear d2x
              try clear d3x
              try clear d4x
              dsimp only
              go_wp2_with fail
              go_loopw [13] (fun x13 wr => ∃ q : Nat, q ≤ j ∧ x13 = .int .i64 q ∧ Dsk wr B0 b x4 M4 ∧ Below w.heap.size w wr ∧ B0 ≤ wr.heap.size) (fun x13 _ => n - (intOf x13).toNat)
              case atStart => exact ⟨0, Nat.zero_le _, rfl, hD4, hbr4, hB4⟩
              case round =>
                clear hD4 hbr4 hB4
                obtain ⟨q, hqj, rfl, hD, hbr, hBr⟩ := hrel
                by_cases hlt : q < j
                · obtain ⟨hqn, hq20⟩ := (hin.out q).2 hlt
                  obtain ⟨b1, o1, rfl, hbl, ai, ci, d, hd, hc, hsd, hdl, htk⟩ := hrow.out q hqn
                  have hg := hget.out q hlt hq20
                  rw [hd] at hg
                  have cx := (hbr.cell (p := ⟨b1, o1 + q, none⟩) hbl).trans hc
                  have lx := World.lt_of_cell cx
                  dsimp only at lx
                  have d1 : decide ((q : Int) < (n : Int)) = true := by simp; omega
                  have d2 : decide ((q : Int) < 20) = true := by simp; omega
                  have htx := nm_text hq20 wr
                  have hba := belowAlloc wr (.cells #[.int .u8 102, .int .u8 (97 + (q : Int))] 5)
                  have hrd := read_any (nm q) _ (by rw [nm_size]; decide) (hD.below hba) okM4.out
                  have hbo : bytesOf M4.now (nm q) = d := by unfold bytesOf; rw [hg]; rfl
                  rw [hg, hbo] at hrd
                  simp only [Option.isSome_some] at hrd
                  replace hba := Lib.hid hba
                  replace hsd := Lib.hid hsd
                  clear hd hc htk hbo hg
                  go_wp2_with fail
                  refine hrd.mono ?_
                  rintro e w5 ⟨v5, rfl, hown, hb5⟩
                  obtain ⟨a5, c5, rfl, hs5⟩ := own_slaU hown
                  have hbr5' : Below wr.heap.size wr w5 := hba.out.trans (hb5.mono hba.out.size)
                  have hbr5 : Below w.heap.size w w5 := hbr.trans (hbr5'.mono hbr.size)
                  have hB5 : B0 ≤ w5.heap.size := Nat.le_trans hBr hbr5'.size
                  have hD5 := hD.below hbr5'
                  have t1 := textU (hs5.imp (Below.refl w5.heap.size w5).drew (Nat.le_refl _) (fun cs x _ h => h))
                  have t2 := textU (hsd.out.imp hbr5.drew hbr5.size (fun cs x _ h => h))
                  have cx5 := (hbr5'.cell (p := ⟨b1, o1 + q, none⟩) lx).trans cx
                  obtain ⟨k, hk⟩ : ∃ k, k = d.length := ⟨_, rfl⟩
                  rw [← hk] at t1 t2 cx5 ⊢
                  obtain ⟨sd, hsd2⟩ : ∃ sd, sd = strU d := ⟨_, rfl⟩
                  rw [← hsd2] at t1 t2
                  replace hk := Lib.hid hk
                  clear hsd2 hrd hba hsd hown hs5 hb5 cx lx htx hbr hBr hD hbr5'
                  dsimp only
                  go_upto_region 23 with fail
                  refine wp_region_tree (fun wx => wx.cell? ⟨b1, o1 + q, none⟩ = some (.slice ai k ci) ∧ (convert 23 9 (.slice a5 k c5)).run Try.prog wx = .ok (.string sd) wx ∧ (convert 23 9 (.slice ai k ci)).run Try.prog wx = .ok (.string sd) wx) 11 12 (by kernel_rfl) rfl (by kernel_rfl) (fun d _ _ _ _ h => by cases d <;> exact h) (⟨cx5, t1, t2⟩) (fun opz T hOps hT hTok hHeld => ?_)
                  (refine wpTree_q 0 hTok hOps (by kernel_rfl) rfl rfl ⟨?_, ?_, ?_⟩; rotate_left; (focus (intro wx hSx; (try dsimp only at hSx); go_simp; (try with_reducible rfl))); (simp only [Act.put, List.setIfInBounds_toArray, List.set_cons_zero, List.set_cons_succ]))
                  (refine wpTree_q 1 hTok hOps (by kernel_rfl) rfl rfl ⟨?_, ?_, ?_⟩; rotate_left; (focus (intro wx hSx; (try dsimp only at hSx); go_simp; (try with_reducible rfl))); (simp only [Act.put, List.setIfInBounds_toArray, List.set_cons_zero, List.set_cons_succ]))
                  (refine wpTree_q 2 hTok hOps (by kernel_rfl) rfl rfl ⟨?_, ?_, ?_⟩; rotate_left; (focus (intro wx hSx; (try dsimp only at hSx); go_simp; (try with_reducible rfl))); (simp only [Act.put, List.setIfInBounds_toArray, List.set_cons_zero, List.set_cons_succ]))
                  (refine wpTree_qg 3 hTok hOps (by kernel_rfl) rfl rfl ⟨?_, ?_, ?_⟩; rotate_left; (focus (intro wx hSx; (try dsimp only at hSx); go_simp; (try with_reducible rfl))); (simp only [Act.put, List.setIfInBounds_toArray, List.set_cons_zero, List.set_cons_succ]))
                  (refine wpTree_qg 4 hTok hOps (by kernel_rfl) rfl rfl ⟨?_, ?_, ?_⟩; rotate_left; (focus (intro wx hSx; (try dsimp only at hSx); go_simp; (try with_reducible rfl))); (simp only [Act.put, List.setIfInBounds_toArray, List.set_cons_zero, List.set_cons_succ]))
                  (refine wpTree_qg 5 hTok hOps (by kernel_rfl) rfl rfl ⟨?_, ?_, ?_⟩; rotate_left; (focus (intro wx hSx; (try dsimp only at hSx); go_simp; (try with_reducible rfl))); (simp only [Act.put, List.setIfInBounds_toArray, List.set_cons_zero, List.set_cons_succ]))
                  (refine wpTree_qg 6 hTok hOps (by kernel_rfl) rfl rfl ⟨?_, ?_, ?_⟩; rotate_left; (focus (intro wx hSx; (try dsimp only at hSx); go_simp; (try with_reducible rfl))); (simp only [Act.put, List.setIfInBounds_toArray, List.set_cons_zero, List.set_cons_succ]))
                  (refine wpTree_qg 7 hTok hOps (by kernel_rfl) rfl rfl ⟨?_, ?_, ?_⟩; rotate_left; (focus (intro wx hSx; (try dsimp only at hSx); go_simp; (try with_reducible rfl))); (simp only [Act.put, List.setIfInBounds_toArray, List.set_cons_zero, List.set_cons_succ]))
                  (refine wpTree_qg 8 hTok hOps (by kernel_rfl) rfl rfl ⟨?_, ?_, ?_⟩; rotate_left; (focus (intro wx hSx; (try dsimp only at hSx); go_simp; (try with_reducible rfl))); (simp only [Act.put, List.setIfInBounds_toArray, List.set_cons_zero, List.set_cons_succ]))
                  (refine wpTree_qg 9 hTok hOps (by kernel_rfl) rfl rfl ⟨?_, ?_, ?_⟩; rotate_left; (focus (intro wx hSx; (try dsimp only at hSx); go_simp; (try with_reducible rfl))); (simp only [Act.put, List.setIfInBounds_toArray, List.set_cons_zero, List.set_cons_succ]))
                  (refine wpTree_qg 10 hTok hOps (by kernel_rfl) rfl rfl ⟨?_, ?_, ?_⟩; rotate_left; (focus (intro wx hSx; (try dsimp only at hSx); go_simp; (try with_reducible rfl))); (simp only [Act.put, List.setIfInBounds_toArray, List.set_cons_zero, List.set_cons_succ]))
                  refine wpTree_nil hOps (by kernel_rfl) ?_
                  refine hT.out _ _ ?_
                  simp only [List.drop_succ_cons, List.drop_zero]
                  clear hOps hT hTok hHeld
                  have hD6 := hD5.below (Below.refl _ _).drew
                  have hbr6 : Below w.heap.size w w5.drew := hbr5.drew
                  have hB6 : B0 ≤ w5.drew.heap.size := hB5
                  have hss : (sd.toList != sd.toList) = false := by simp
                  clear t1 t2 cx5 hD5 hbr5 hB5
                  go_wp2_with fail
                  go_roundw
                  case rel => exact ⟨q + 1, by omega, by go_num, hD6, hbr6, hB6⟩
                  case measure => simp [intOf]; omega
                · obtain rfl : q = j := by omega
                  have hex : ¬ (q < n ∧ q < 20) := fun h => Nat.lt_irrefl _ ((hin.out q).1 h)
                  first
                    | (have d1x : decide ((q : Int) < (n : Int)) = true := by simp; omega
                       have d2x : decide ((q : Int) < 20) = false := by simp; omega
                       have d3x : q < n := by omega
                       have d4x : ¬ (q < 20) := by omega)
                    | (have d1x : decide ((q : Int) < (n : Int)) = false := by simp; omega
                       have d3x : ¬ (q < n) := by omega)
                  clear hex
                  have hpn := pending_any wr hD
                  rw [hpe.out] at hpn
                  go_wp2_with fail
                  refine hpn.mono ?_
                  rintro e w5 ⟨rfl, rfl⟩
                  dsimp only
                  go_wp2_with fail
                  go_ret
                  exact ⟨rfl, hbr⟩
set_option maxRecDepth 100000 in
set_option maxHeartbeats 8000000 in
theorem synced_gt (ao : Option Addr) (cap : Nat) (fs : List (List UInt8)) (ea : Option Addr) (ec : Nat) (extra : List UInt8) (pa : Option Addr) (pc : Nat) (picks : List Int) (w : World)
    (hf : SlA w.heap.size 1 (RFi w.heap.size) w ao cap fs) (he : SlA w.heap.size 1 EU w ea ec extra) (hp : SlA w.heap.size 1 (RI .i64) w pa pc picks) (helen : extra.length ≤ 140737488355328) (h20 : 20 < fs.length) :
    Calls Try.prog 3 #[.slice ao fs.length cap, .slice ea extra.length ec, .slice pa picks.length pc] w fun e w' => e = .returned (.bool true) ∧ Below w.heap.size w w' := by
    have hflen := hf.len
    obtain ⟨n, hn⟩ : ∃ n, n = fs.length := ⟨_, rfl⟩
    obtain ⟨m, hm⟩ : ∃ m, m = extra.length := ⟨_, rfl⟩
    obtain ⟨pl, hpl⟩ : ∃ pl, pl = picks.length := ⟨_, rfl⟩
    rw [← hn] at hflen h20 ⊢
    rw [← hm] at helen ⊢
    rw [← hpl]
    have hrow : ∀ i, i < n → ∃ b1 o1, ao = some ⟨b1, o1, none⟩ ∧ b1 < w.heap.size ∧ ∃ ai ci d, fs[i]? = some d ∧ w.cell? ⟨b1, o1 + i, none⟩ = some (.slice ai d.length ci) ∧ SlA w.heap.size 1 EU w ai ci d ∧ d.length ≤ 140737488355328 ∧ lens (fs.take (i + 1)) = lens (fs.take i) + d.length := fun i hi => by
      have hi2 : i < fs.length := by rw [← hn]; exact hi
      obtain ⟨b1, o1, h1, h2, ai, ci, h3, h4, h5⟩ := rows_get hf hi2
      exact ⟨b1, o1, h1, h2, ai, ci, fs[i], List.getElem?_eq_getElem hi2, h3, h4, h5, lens_take hi2⟩
    replace hn := Lib.hid hn
    replace hm := Lib.hid hm
    replace hpl := Lib.hid hpl
    replace hrow := Lib.hid hrow
    replace he := Lib.hid he
    replace hp := Lib.hid hp
    clear hf
    go_enter Try.func3, Try.ntmps3
    go_wp2_with fail
    refine (known_any w).mono ?_
    rintro e w1 ⟨rfl, hb1⟩
    dsimp only
    go_wp2_with fail
    go_loopw [7, 8] (fun x7 x8 wr => ∃ i : Nat, i ≤ n ∧ i ≤ 20 ∧ x8 = .int .i64 i ∧ x7 = .int .i64 ((m + lens (fs.take i) : Nat) : Int) ∧ lens (fs.take i) ≤ i * 140737488355328 ∧ wr = w1) (fun x7 x8 _ => n - (intOf x8).toNat)
    case atStart => exact ⟨0, Nat.zero_le _, Nat.zero_le _, rfl, by simp [lens], by simp [lens], rfl⟩
    case round =>
      obtain ⟨i, hi, hi20, rfl, rfl, hle, rfl⟩ := hrel
      obtain ⟨s, hs⟩ : ∃ s, s = m + lens (fs.take i) := ⟨_, rfl⟩
      rw [← hs]
      have hs1 : s ≤ 2955487255461888 := by omega
      by_cases hlt : i < n ∧ i < 20
      · obtain ⟨b1, o1, rfl, hbl, ai, ci, d, hd, hc, hsd, hdl, htk⟩ := hrow.out i hlt.1
        obtain ⟨k, hk⟩ : ∃ k, k = d.length := ⟨_, rfl⟩
        rw [← hk] at hc hdl htk
        have cx := (hb1.cell (p := ⟨b1, o1 + i, none⟩) hbl).trans hc
        have d1 : decide ((i : Int) < (n : Int)) = true := by simp; omega
        have d2 : decide ((i : Int) < 20) = true := by simp; omega
        have hin := hlt.1
        have hi2 := hlt.2
        have hnext : m + lens (fs.take (i + 1)) = s + k := by omega
        have hnext2 : lens (fs.take (i + 1)) ≤ (i + 1) * 140737488355328 := by omega
        replace hnext := Lib.hid hnext
        replace hnext2 := Lib.hid hnext2
        replace hk := Lib.hid hk
        clear hs hle hd hsd htk hc hlt
        go_wp2_with fail
        go_roundw
        case rel => exact ⟨i + 1, by omega, by omega, by go_num, by rw [hnext.out]; go_num, hnext2.out, by first | rfl | trivial⟩
        case measure => simp [intOf]; omega
      · first
          | (have d1x : decide ((i : Int) < (n : Int)) = true := by simp; omega
             have d2x : decide ((i : Int) < 20) = false := by simp; omega
             have d3x : i < n := by omega
             have d4x : ¬ (i < 20) := by omega)
          | (have d1x : decide ((i : Int) < (n : Int)) = false := by simp; omega
             have d3x : ¬ (i < n) := by omega)
        have hcap : ∀ j, j ≤ i → m + lens (fs.take j) ≤ s := fun j hj => by
          have := lens_le fs hj
          omega
        have hin : ∀ j, (j < n ∧ j < 20) ↔ j < i := fun j => by omega
        replace hcap := Lib.hid hcap
        replace hin := Lib.hid hin
        clear hs hle hlt
        by_cases hbig : 134217728 < s
        · have d2 : decide ((134217728 : Int) < (s : Int)) = true := by simp; omega
          go_wp2_with fail
          go_ret
          exact ⟨rfl, hb1⟩
        · have d2 : decide ((134217728 : Int) < (s : Int)) = false := by simp; omega
          go_wp2_with fail
          refine (new_any 268435456 wr (by omega) (by omega)).mono ?_
          rintro e w2 ⟨b, x0, rfl, hD, hb2, _, _, _⟩
          obtain ⟨B0, hB0⟩ : ∃ B0, B0 = wr.heap.size := ⟨_, rfl⟩
          rw [← hB0] at hD hb2
          have hB0w : w.heap.size ≤ B0 := by rw [hB0]; exact hb1.size
          have hbw2 : Below w.heap.size w w2 := hb1.trans (hb2.mono hB0w)
          have hB02 : B0 ≤ w2.heap.size := by rw [hB0]; exact hb2.size
          have hS0 := Syn.zero fs
          have he63 := helen
          replace hB0 := Lib.hid hB0
          have hsb : s ≤ 134217728 := by omega
          clear hb1 hb2 hbig d2
          try clear d1x
          try clear d2x
          try clear d3x
          try clear d4x
          dsimp only
          go_wp2_with fail
          go_loopw [11] (fun x11 wr => ∃ (j : Nat) (M : DM) (x : DX), j ≤ i ∧ x11 = .int .i64 j ∧ Hid (Syn fs j M) ∧ Dsk wr B0 b x M ∧ Below w.heap.size w wr ∧ B0 ≤ wr.heap.size) (fun x11 _ => n - (intOf x11).toNat)
          case atStart => exact ⟨0, _, _, Nat.zero_le _, rfl, Lib.hid hS0, hD, hbw2, hB02⟩
          case round =>
            clear hS0 hD hbw2 hB02
            obtain ⟨j, M, x, hji, rfl, hS, hD, hbr, hBr⟩ := hrel
            by_cases hlt : j < i
            · obtain ⟨hjn, hj20⟩ := (hin.out j).2 hlt
              obtain ⟨b1, o1, rfl, hbl, ai, ci, d, hd, hc, hsd, hdl, htk⟩ := hrow.out j hjn
              have hjl : j < fs.length := by rw [← hn.out]; exact hjn
              have hfd : fs[j] = d := by
                rw [List.getElem?_eq_getElem hjl] at hd
                exact Option.some.inj hd
              have hcj := hcap.out (j + 1) (by omega)
              obtain ⟨e1, e2, e3⟩ := hS.out.step hjl hj20 (by omega)
              rw [hfd] at e1 e2 e3
              have okM := hS.out.ok
              have okW : OkM (2 * j + 1) (MW M j d) := by have := okM.write (nm j) 0 d; rwa [e1] at this
              have cx := (hbr.cell (p := ⟨b1, o1 + j, none⟩) hbl).trans hc
              have lx := World.lt_of_cell cx
              dsimp only at lx
              have d1 : decide ((j : Int) < (n : Int)) = true := by simp; omega
              have d2 : decide ((j : Int) < 20) = true := by simp; omega
              have htx := nm_text hj20 wr
              have hba := belowAlloc wr (.cells #[.int .u8 102, .int .u8 (97 + (j : Int))] 5)
              have hw := write_ok 0 (nm j) 0 ai ci d _ (by rw [nm_size]; decide) (hD.below hba) okM (by omega) (Nat.le_trans hBr hba.size) (hsd.imp (hbr.trans (hba.mono hbr.size)) (Nat.le_trans hbr.size hba.size) (fun cs x _ h => h)) hdl e1
              obtain ⟨k, hk⟩ : ∃ k, k = d.length := ⟨_, rfl⟩
              rw [← hk] at hw cx
              replace hk := Lib.hid hk
              replace okW := Lib.hid okW
              replace e1 := Lib.hid e1
              replace e2 := Lib.hid e2
              replace e3 := Lib.hid e3
              replace hba := Lib.hid hba
              clear hd hsd hc htk hS hfd hcj okM
              go_wp2_with fail
              refine hw.mono ?_
              rintro e w3 ⟨rfl, x3, hD3, hb3⟩
              have hbr3 : Below w.heap.size w w3 := (hbr.trans (hba.out.mono hbr.size)).trans (hb3.mono hB0w)
              have hB3 : B0 ≤ w3.heap.size := Nat.le_trans (Nat.le_trans hBr hba.out.size) hb3.size
              have hsy := sync_ok 0 (nm j) w3 (by rw [nm_size]; decide) hD3 okW.out (by omega) hB3 e2.out
              clear hw hb3 hba cx lx htx hbr hBr hD3 hD
              dsimp only
              go_wp2_with fail
              refine hsy.mono ?_
              rintro e w4 ⟨rfl, x4, hD4, hb4⟩
              have hbr4 := hbr3.trans (hb4.mono hB0w)
              have hB4 := Nat.le_trans hB3 hb4.size
              clear hsy hbr3 hB3 hb4
              dsimp only
              go_wp2_with fail
              go_roundw
              case rel => exact ⟨j + 1, _, x4, by omega, by go_num, e3, hD4, hbr4, hB4⟩
              case measure => simp [intOf]; omega
            · obtain rfl : j = i := by omega
              have hex : ¬ (j < n ∧ j < 20) := fun h => Nat.lt_irrefl _ ((hin.out j).1 h)
              first
                | (have d1x : decide ((j : Int) < (n : Int)) = true := by simp; omega
                   have d2x : decide ((j : Int) < 20) = false := by simp; omega
                   have d3x : j < n := by omega
                   have d4x : ¬ (j < 20) := by omega)
                | (have d1x : decide ((j : Int) < (n : Int)) = false := by simp; omega
                   have d3x : ¬ (j < n) := by omega)
              clear hex
              have okM := hS.out.ok
              have hwz := write_any zz 0 ea ec extra wr (by decide) hD okM (by omega) hBr (he.out.imp hbr hbr.size (fun cs x _ h => h)) (by rw [← hm.out]; exact helen)
              obtain ⟨M3, hM3⟩ : ∃ M3, M3 = (writeM M zz 0 extra).2 := ⟨_, rfl⟩
              rw [← hM3, ← hm.out] at hwz
              have okM3 : OkM (2 * j + 1) M3 := by rw [hM3]; exact okM.write zz 0 extra
              have hget : ∀ q, q < j → q < 20 → getL (crashM M3 picks).now (nm q) = fs[q]? := fun q h1 h2 => by rw [hM3]; exact hS.out.crash extra picks h1 h2
              obtain ⟨er, her⟩ : ∃ er, er = (writeM M zz 0 extra).1 := ⟨_, rfl⟩
              rw [← her] at hwz
              obtain ⟨M4, hM4⟩ : ∃ M4, M4 = crashM M3 picks := ⟨_, rfl⟩
              have okM4 : OkM (2 * j + 1) M4 := by rw [hM4]; exact okM3.crash picks
              have hpe : M4.chs.length = 0 := by rw [hM4]; rfl
              rw [← hM4] at hget
              replace hget := Lib.hid hget
              replace okM3 := Lib.hid okM3
              replace okM4 := Lib.hid okM4
              replace hpe := Lib.hid hpe
              replace hM4 := Lib.hid hM4
              clear hM3 her okM hS
              go_wp2_with fail
              refine hwz.mono ?_
              rintro e w3 ⟨rfl, hst⟩
              obtain ⟨x3, hD3, hb3⟩ := hst.to hD hBr
              have hbr3 : Below w.heap.size w w3 := hbr.trans (hb3.mono hB0w)
              have hB3 : B0 ≤ w3.heap.size := Nat.le_trans hBr hb3.size
              have hcr := crash_ok picks pa pc w3 hD3 okM3.out (by omega) hB3 (hp.out.imp hbr3 hbr3.size (fun cs x _ h => h))
              rw [← hpl.out, ← hM4.out] at hcr
              clear hwz hst hD3 hb3 hD hbr hBr
              dsimp only
              go_wp2_with fail
              refine hcr.mono ?_
              rintro e w4 ⟨⟨v4, rfl⟩, x4, hD4, hb4⟩
              have hbr4 := hbr3.trans (hb4.mono hB0w)
              have hB4 := Nat.le_trans hB3 hb4.size
              clear hcr hbr3 hB3 hb4
              try clear d1x
              try clear d2x
              try clear d3x
              try clear d4x
              dsimp only
              go_wp2_with fail
              go_loopw [13] (fun x13 wr => ∃ q : Nat, q ≤ j ∧ x13 = .int .i64 q ∧ Dsk wr B0 b x4 M4 ∧ Below w.heap.size w wr ∧ B0 ≤ wr.heap.size) (fun x13 _ => n - (intOf x13).toNat)
              case atStart => exact ⟨0, Nat.zero_le _, rfl, hD4, hbr4, hB4⟩
              case round =>
                clear hD4 hbr4 hB4
                obtain ⟨q, hqj, rfl, hD, hbr, hBr⟩ := hrel
                by_cases hlt : q < j
                · obtain ⟨hqn, hq20⟩ := (hin.out q).2 hlt
                  obtain ⟨b1, o1, rfl, hbl, ai, ci, d, hd, hc, hsd, hdl, htk⟩ := hrow.out q hqn
                  have hg := hget.out q hlt hq20
                  rw [hd] at hg
                  have cx := (hbr.cell (p := ⟨b1, o1 + q, none⟩) hbl).trans hc
                  have lx := World.lt_of_cell cx
                  dsimp only at lx
                  have d1 : decide ((q : Int) < (n : Int)) = true := by simp; omega
                  have d2 : decide ((q : Int) < 20) = true := by simp; omega
                  have htx := nm_text hq20 wr
                  have hba := belowAlloc wr (.cells #[.int .u8 102, .int .u8 (97 + (q : Int))] 5)
                  have hrd := read_any (nm q) _ (by rw [nm_size]; decide) (hD.below hba) okM4.out
                  have hbo : bytesOf M4.now (nm q) = d := by unfold bytesOf; rw [hg]; rfl
                  rw [hg, hbo] at hrd
                  simp only [Option.isSome_some] at hrd
                  replace hba := Lib.hid hba
                  replace hsd := Lib.hid hsd
                  clear hd hc htk hbo hg
                  go_wp2_with fail
                  refine hrd.mono ?_
                  rintro e w5 ⟨v5, rfl, hown, hb5⟩
                  obtain ⟨a5, c5, rfl, hs5⟩ := own_slaU hown
                  have hbr5' : Below wr.heap.size wr w5 := hba.out.trans (hb5.mono hba.out.size)
                  have hbr5 : Below w.heap.size w w5 := hbr.trans (hbr5'.mono hbr.size)
                  have hB5 : B0 ≤ w5.heap.size := Nat.le_trans hBr hbr5'.size
                  have hD5 := hD.below hbr5'
                  have t1 := textU (hs5.imp (Below.refl w5.heap.size w5).drew (Nat.le_refl _) (fun cs x _ h => h))
                  have t2 := textU (hsd.out.imp hbr5.drew hbr5.size (fun cs x _ h => h))
                  have cx5 := (hbr5'.cell (p := ⟨b1, o1 + q, none⟩) lx).trans cx
                  obtain ⟨k, hk⟩ : ∃ k, k = d.length := ⟨_, rfl⟩
                  rw [← hk] at t1 t2 cx5 ⊢
                  obtain ⟨sd, hsd2⟩ : ∃ sd, sd = strU d := ⟨_, rfl⟩
                  rw [← hsd2] at t1 t2
                  replace hk := Lib.hid hk
                  clear hsd2 hrd hba hsd hown hs5 hb5 cx lx htx hbr hBr hD hbr5'
                  dsimp only
                  go_upto_region 23 with fail
                  refine wp_region_tree (fun wx => wx.cell? ⟨b1, o1 + q, none⟩ = some (.slice ai k ci) ∧ (convert 23 9 (.slice a5 k c5)).run Try.prog wx = .ok (.string sd) wx ∧ (convert 23 9 (.slice ai k ci)).run Try.prog wx = .ok (.string sd) wx) 11 12 (by kernel_rfl) rfl (by kernel_rfl) (fun d _ _ _ _ h => by cases d <;> exact h) (⟨cx5, t1, t2⟩) (fun opz T hOps hT hTok hHeld => ?_)
                  (refine wpTree_q 0 hTok hOps (by kernel_rfl) rfl rfl ⟨?_, ?_, ?_⟩; rotate_left; (focus (intro wx hSx; (try dsimp only at hSx); go_simp; (try with_reducible rfl))); (simp only [Act.put, List.setIfInBounds_toArray, List.set_cons_zero, List.set_cons_succ]))
                  (refine wpTree_q 1 hTok hOps (by kernel_rfl) rfl rfl ⟨?_, ?_, ?_⟩; rotate_left; (focus (intro wx hSx; (try dsimp only at hSx); go_simp; (try with_reducible rfl))); (simp only [Act.put, List.setIfInBounds_toArray, List.set_cons_zero, List.set_cons_succ]))
                  (refine wpTree_q 2 hTok hOps (by kernel_rfl) rfl rfl ⟨?_, ?_, ?_⟩; rotate_left; (focus (intro wx hSx; (try dsimp only at hSx); go_simp; (try with_reducible rfl))); (simp only [Act.put, List.setIfInBounds_toArray, List.set_cons_zero, List.set_cons_succ]))
                  (refine wpTree_qg 3 hTok hOps (by kernel_rfl) rfl rfl ⟨?_, ?_, ?_⟩; rotate_left; (focus (intro wx hSx; (try dsimp only at hSx); go_simp; (try with_reducible rfl))); (simp only [Act.put, List.setIfInBounds_toArray, List.set_cons_zero, List.set_cons_succ]))
                  (refine wpTree_qg 4 hTok hOps (by kernel_rfl) rfl rfl ⟨?_, ?_, ?_⟩; rotate_left; (focus (intro wx hSx; (try dsimp only at hSx); go_simp; (try with_reducible rfl))); (simp only [Act.put, List.setIfInBounds_toArray, List.set_cons_zero, List.set_cons_succ]))
                  (refine wpTree_qg 5 hTok hOps (by kernel_rfl) rfl rfl ⟨?_, ?_, ?_⟩; rotate_left; (focus (intro wx hSx; (try dsimp only at hSx); go_simp; (try with_reducible rfl))); (simp only [Act.put, List.setIfInBounds_toArray, List.set_cons_zero, List.set_cons_succ]))
                  (refine wpTree_qg 6 hTok hOps (by kernel_rfl) rfl rfl ⟨?_, ?_, ?_⟩; rotate_left; (focus (intro wx hSx; (try dsimp only at hSx); go_simp; (try with_reducible rfl))); (simp only [Act.put, List.setIfInBounds_toArray, List.set_cons_zero, List.set_cons_succ]))
                  (refine wpTree_qg 7 hTok hOps (by kernel_rfl) rfl rfl ⟨?_, ?_, ?_⟩; rotate_left; (focus (intro wx hSx; (try dsimp only at hSx); go_simp; (try with_reducible rfl))); (simp only [Act.put, List.setIfInBounds_toArray, List.set_cons_zero, List.set_cons_succ]))
                  (refine wpTree_qg 8 hTok hOps (by kernel_rfl) rfl rfl ⟨?_, ?_, ?_⟩; rotate_left; (focus (intro wx hSx; (try dsimp only at hSx); go_simp; (try with_reducible rfl))); (simp only [Act.put, List.setIfInBounds_toArray, List.set_cons_zero, List.set_cons_succ]))
                  (refine wpTree_qg 9 hTok hOps (by kernel_rfl) rfl rfl ⟨?_, ?_, ?_⟩; rotate_left; (focus (intro wx hSx; (try dsimp only at hSx); go_simp; (try with_reducible rfl))); (simp only [Act.put, List.setIfInBounds_toArray, List.set_cons_zero, List.set_cons_succ]))
                  (refine wpTree_qg 10 hTok hOps (by kernel_rfl) rfl rfl ⟨?_, ?_, ?_⟩; rotate_left; (focus (intro wx hSx; (try dsimp only at hSx); go_simp; (try with_reducible rfl))); (simp only [Act.put, List.setIfInBounds_toArray, List.set_cons_zero, List.set_cons_succ]))
                  refine wpTree_nil hOps (by kernel_rfl) ?_
                  refine hT.out _ _ ?_
                  simp only [List.drop_succ_cons, List.drop_zero]
                  clear hOps hT hTok hHeld
                  have hD6 := hD5.below (Below.refl _ _).drew
                  have hbr6 : Below w.heap.size w w5.drew := hbr5.drew
                  have hB6 : B0 ≤ w5.drew.heap.size := hB5
                  have hss : (sd.toList != sd.toList) = false := by simp
                  clear t1 t2 cx5 hD5 hbr5 hB5
                  go_wp2_with fail
                  go_roundw
                  case rel => exact ⟨q + 1, by omega, by go_num, hD6, hbr6, hB6⟩
                  case measure => simp [intOf]; omega
                · obtain rfl : q = j := by omega
                  have hex : ¬ (q < n ∧ q < 20) := fun h => Nat.lt_irrefl _ ((hin.out q).1 h)
                  first
                    | (have d1x : decide ((q : Int) < (n : Int)) = true := by simp; omega
                       have d2x : decide ((q : Int) < 20) = false := by simp; omega
                       have d3x : q < n := by omega
                       have d4x : ¬ (q < 20) := by omega)
                    | (have d1x : decide ((q : Int) < (n : Int)) = false := by simp; omega
                       have d3x : ¬ (q < n) := by omega)
                  clear hex
                  have hpn := pending_any wr hD
                  rw [hpe.out] at hpn
                  go_wp2_with fail
                  refine hpn.mono ?_
                  rintro e w5 ⟨rfl, rfl⟩
                  dsimp only
                  go_wp2_with fail
                  go_ret
                  exact ⟨rfl, hbr⟩

set_option maxRecDepth 100000 in
set_option maxHeartbeats 8000000 in
theorem synced_any (ao : Option Addr) (cap : Nat) (fs : List (List UInt8)) (ea : Option Addr) (ec : Nat) (extra : List UInt8) (pa : Option Addr) (pc : Nat) (picks : List Int) (w : World)
    (hf : SlA w.heap.size 1 (RFi w.heap.size) w ao cap fs) (he : SlA w.heap.size 1 EU w ea ec extra) (hp : SlA w.heap.size 1 (RI .i64) w pa pc picks) (helen : extra.length ≤ 140737488355328) :
    Calls Try.prog 3 #[.slice ao fs.length cap, .slice ea extra.length ec, .slice pa picks.length pc] w fun e w' => e = .returned (.bool true) ∧ Below w.heap.size w w' := by
  rcases Nat.lt_or_ge 20 fs.length with h | h
  · exact synced_gt ao cap fs ea ec extra pa pc picks w hf he hp helen h
  · exact synced_le ao cap fs ea ec extra pa pc picks w hf he hp helen h
end Go.Proofs.Ytjhbeahkojippaa
