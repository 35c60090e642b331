/- Disk: the document's disk: Sync. -/
import Derived.Test.YtjhbeahkojippaaD10
namespace Go.Proofs.Ytjhbeahkojippaa
open Go.RowKit Go.Maps
attribute [local go_sem] Oper.semAt_some
set_option linter.unusedVariables false
set_option linter.unusedSimpArgs false

namespace Rf
variable {w w1 : World} {base mb : Nat} {r : RX} {M : DM}
theorem noU (h : Rf w base mb r M) : ∀ k, k = mb → ∀ cs, ¬ Blk w k cs 5 := fun k hk cs hb => by
  have hb1 := h.blk
  rw [hk] at hb
  unfold Blk at hb hb1
  rw [hb1] at hb
  simp at hb
theorem setSafe (h : Rf w base mb r M) {sv' : Value} {l : List (ByteArray × FV)} {L : Files} (hl : FlAt w base sv' l) (hf : ∀ p ∈ l, FileAt w base p.2.v p.2.bs) (hq : mapL FV.bs l = L) :
    Rf (w.setCell ⟨mb, 3, none⟩ sv') base mb { r with sv := sv', safe := l } { M with safe := L } := by
  have hc : Chg (fun k => k = mb) w (w.setCell ⟨mb, 3, none⟩ sv') := (Chg.refl _ _).setCell _ _ (fun _ => rfl)
  have hU := h.noU
  exact ⟨by simpa using h.blk.set 3 sv', h.now.chg hc (fun g e1 e2 => h.now.ne_blk h.blk (by decide) (by rw [e1, e2])), hl.chg hc (fun g e1 e2 => hl.ne_blk h.blk (by decide) (by rw [e1, e2])), h.row.chg hc (fun g e1 e2 => h.row.ne_blk h.blk (by decide) (by rw [e1, e2])),
    fun p hp => (h.filn p hp).chg hc hU, fun p hp => (hf p hp).chg hc hU, fun c hc3 => (h.filc c hc3).chg hc hU, h.nq, hq, h.chq, h.bb⟩
theorem setChs (h : Rf w base mb r M) {cv' : Value} {l : List CH} (hl : OwnL encC w base 91 4 cv' l) (hf : ∀ c ∈ l, FileAt w base c.d.v c.d.bs) :
    Rf (w.setCell ⟨mb, 4, none⟩ cv') base mb { r with cv := cv', chs := l } { M with chs := l.map CH.abs } := by
  have hc : Chg (fun k => k = mb) w (w.setCell ⟨mb, 4, none⟩ cv') := (Chg.refl _ _).setCell _ _ (fun _ => rfl)
  have hU := h.noU
  exact ⟨by simpa using h.blk.set 4 cv', h.now.chg hc (fun g e1 e2 => h.now.ne_blk h.blk (by decide) (by rw [e1, e2])), h.safe.chg hc (fun g e1 e2 => h.safe.ne_blk h.blk (by decide) (by rw [e1, e2])), hl.chg hc (fun g e1 e2 => hl.ne_blk h.blk (by decide) (by rw [e1, e2])),
    fun p hp => (h.filn p hp).chg hc hU, fun p hp => (h.fils p hp).chg hc hU, fun c hc3 => (hf c hc3).chg hc hU, h.nq, h.sq, rfl, h.bb⟩
theorem get_safe (h : Rf w base mb r M) (s : ByteArray) : getL M.safe s = (getL r.safe s).map FV.bs := by rw [← h.sq, getL_map]
theorem len_safe (h : Rf w base mb r M) {N : Nat} (hok : OkM N M) : r.safe.length ≤ N := by
  have := congrArg List.length h.sq
  simp only [mapL, List.length_map] at this
  have := hok.lsc
  omega
end Rf
theorem leftH_snoc (l : List CH) (c : CH) (s : ByteArray) : leftH (l ++ [c]) s = leftH l s ++ (if c.name = s then [] else [c]) := by
  unfold leftH
  rw [List.filter_append]
  congr 1
  by_cases h : c.name = s <;> simp [h]

set_option maxRecDepth 100000 in
set_option maxHeartbeats 8000000 in
theorem rsync_any {base mb : Nat} {r : RX} {M : DM} {N : Nat} (s : ByteArray) (w : World) (hs : s.size ≤ maxLen) (h : Rf w base mb r M) (hok : OkM N M) (hN : N ≤ 1000000) (hb : base ≤ w.heap.size) :
    Calls Try.prog 42 #[.pointer (some ⟨mb, 0, none⟩), .string s] w fun e w' => e = .returned (.int .i64 (syncM M s).1) ∧ RStep w base mb r (syncM M s).2 w' := by
  have hrd := rready_any mb M s 0 w hs (h.blk.cellAt rfl)
  obtain ⟨er, her⟩ : ∃ er, er = readyM M s 0 := ⟨_, rfl⟩
  rw [← her] at hrd
  have hgo0 := RStep.same h (Below.refl w.heap.size w)
  by_cases he : er = 0
  · subst he
    obtain ⟨ic, hic, hc0, hc1, hc2⟩ := partsRc
    have hln := Nat.le_trans (h.len_now hok) hN
    have hls := Nat.le_trans (h.len_safe hok) hN
    have hlc := Nat.le_trans (h.len_chs hok) hN
    have hgN := rget_any s base r.nv r.now w h.now hln
    have hgS := rget_any s base r.sv r.safe w h.safe hls
    have hgn := h.get_now s
    have hgs := h.get_safe s
    obtain ⟨f, hfo⟩ : ∃ f, f = fileOf r.now s := ⟨_, rfl⟩
    have hfa : FileAt w base f.v f.bs := by rw [hfo]; exact fileOf_at h.filn s
    have hfb : f.bs = bytesOf M.now s := by rw [hfo]; exact h.file_now s
    obtain ⟨f2, hf2⟩ : ∃ f2, f2 = fileOf r.safe s := ⟨_, rfl⟩
    rw [← hfo] at hgN
    rw [← hf2] at hgS
    obtain ⟨in0, hin0⟩ : ∃ in0, in0 = (getL r.now s).isSome := ⟨_, rfl⟩
    obtain ⟨in1, hin1⟩ : ∃ in1, in1 = (getL r.safe s).isSome := ⟨_, rfl⟩
    rw [← hin0] at hgN
    rw [← hin1] at hgS
    obtain ⟨m, hm⟩ : ∃ m, m = f.bs.length := ⟨_, rfl⟩
    have hfv : f.v = .slice f.ao m f.cap := by rw [hm]; rfl
    obtain ⟨m2, hm2⟩ : ∃ m2, m2 = f2.bs.length := ⟨_, rfl⟩
    have hfv2 : f2.v = .slice f2.ao m2 f2.cap := by rw [hm2]; rfl
    rw [hfv] at hgN
    rw [hfv2] at hgS
    obtain ⟨rs, hrs⟩ : ∃ rs, rs = syncM M s := ⟨_, rfl⟩
    rw [← hrs]
    have hll : (leftC M.chs s).length = M.chs.length ↔ (leftH r.chs s).length = r.chs.length := by rw [← h.chq, ← leftH_abs, List.length_map, List.length_map]
    have hsy : rs = if in0 = false ∧ in1 = false ∧ (leftH r.chs s).length = r.chs.length then (7, M) else (0, { M with chs := leftC M.chs s, safe := if in0 = true then withL M.safe s f.bs else withoutL M.safe s }) := by
      rw [hrs]
      unfold syncM
      rw [← her]
      simp only [ne_eq, not_true, if_false]
      have e0 : getL M.now s = none ↔ in0 = false := by rw [hin0, hgn]; cases getL r.now s <;> simp
      have e1 : getL M.safe s = none ↔ in1 = false := by rw [hin1, hgs]; cases getL r.safe s <;> simp
      by_cases hc : in0 = false ∧ in1 = false ∧ (leftH r.chs s).length = r.chs.length
      · rw [if_pos hc, if_pos ⟨e0.2 hc.1, e1.2 hc.2.1, hll.2 hc.2.2⟩]
      · rw [if_neg hc, if_neg (fun h => hc ⟨e0.1 h.1, e1.1 h.2.1, hll.1 h.2.2⟩)]
        cases hq : getL M.now s with
        | none => rw [e0.1 hq]; rfl
        | some bb =>
          have : in0 = true := by rw [hin0]; rw [hq] at hgn; cases hx : getL r.now s with
            | none => rw [hx] at hgn; cases hgn
            | some y => rfl
          rw [this, hfb]
          unfold bytesOf
          rw [hq]
          rfl
    have c2 : w.cell? ⟨mb, 2, none⟩ = some r.nv := h.blk.cellAt rfl
    have c3 : w.cell? ⟨mb, 3, none⟩ = some r.sv := h.blk.cellAt rfl
    have c4 : w.cell? ⟨mb, 4, none⟩ = some r.cv := h.blk.cellAt rfl
    obtain ⟨na, nc, hnv, _, _, _⟩ := h.now.slice
    obtain ⟨nl, hnl⟩ : ∃ nl, nl = r.now.length := ⟨_, rfl⟩
    have hslN : r.nv = .slice na nl nc := by rw [hnv, hnl]
    obtain ⟨sa, sc, hsv, _, _, _⟩ := h.safe.slice
    obtain ⟨sl, hsl⟩ : ∃ sl, sl = r.safe.length := ⟨_, rfl⟩
    have hslS : r.sv = .slice sa sl sc := by rw [hsv, hsl]
    obtain ⟨ca, cc, hcv, hrow⟩ := h.row.sla (E := fun _ cs x => cs = encC x) encC_len (fun _ _ => rfl)
    obtain ⟨cl, hcl⟩ : ∃ cl, cl = r.chs.length := ⟨_, rfl⟩
    have hslC : r.cv = .slice ca cl cc := by rw [hcv, hcl]
    rw [hslN] at c2 hgN
    rw [hslS] at c3 hgS
    rw [hslC] at c4
    rw [← hcl] at hlc hsy
    replace hm := Lib.hid hm
    replace hcl := Lib.hid hcl
    replace hsy := Lib.hid hsy
    replace hslN := Lib.hid hslN
    replace hslS := Lib.hid hslS
    replace hslC := Lib.hid hslC
    replace hgo0 := Lib.hid hgo0
    have hmbl := h.blk.lt
    rw [show (((0 : Nat) : Int)) = 0 from rfl] at hrd
    clear hnv hnl hsv hsl hcv hll hrs her hin0 hin1 hfo hf2 hfb hfv hfv2 hm2 hgn hgs
    go_enter Try.func42, Try.ntmps42
    go_wp2_with fail
    refine hrd.mono ?_
    rintro e wz ⟨rfl, rfl⟩
    dsimp only
    go_wp2_with fail
    refine hgN.mono ?_
    rintro e wz ⟨rfl, rfl⟩
    dsimp only
    go_wp2_with fail
    refine hgS.mono ?_
    rintro e wz ⟨rfl, rfl⟩
    clear hrd hgN hgS
    dsimp only
    go_wp2_with fail
    go_loopw [10, 11] (fun x10 x11 wr => ∃ i : Nat, i ≤ cl ∧ x11 = .int .i64 i ∧ OwnL encC wr wz.heap.size 91 4 x10 (leftH (r.chs.take i) s) ∧ Below wz.heap.size wz wr) (fun x10 x11 _ => cl - (intOf x11).toNat)
    case atStart => exact ⟨0, Nat.zero_le _, rfl, OwnL.nil _ _ _ _ _, Below.refl _ _⟩
    case round =>
      obtain ⟨i, hin, rfl, hO, hbr⟩ := hrel
      have c4r := (hbr.cell (p := ⟨mb, 4, none⟩) hmbl).trans c4
      by_cases hlt : i < cl
      · have hil : i < r.chs.length := by rw [← hcl.out]; exact hlt
        obtain ⟨b1, o1, rfl, hb1, _⟩ := hrow.addr (by omega)
        obtain ⟨c, hce⟩ : ∃ c, r.chs[i] = c := ⟨_, rfl⟩
        obtain ⟨cs, hcl3, h6, h7⟩ := hrow.get i hil
        rw [hce] at h7
        subst h7
        have e0 : wr.cell? ⟨b1, o1 + i * 4, none⟩ = some (.int .i64 c.kind) := (hbr.cell (p := ⟨b1, o1 + i * 4, none⟩) hb1).trans (h6 0 (by omega))
        have e1 : wr.cell? ⟨b1, o1 + i * 4 + 1, none⟩ = some (.string c.name) := (hbr.cell (p := ⟨b1, o1 + i * 4 + 1, none⟩) hb1).trans (h6 1 (by omega))
        have e2 : wr.cell? ⟨b1, o1 + i * 4 + 2, none⟩ = some (.int .i64 c.pos) := (hbr.cell (p := ⟨b1, o1 + i * 4 + 2, none⟩) hb1).trans (h6 2 (by omega))
        have e3 : wr.cell? ⟨b1, o1 + i * 4 + 3, none⟩ = some c.d.v := (hbr.cell (p := ⟨b1, o1 + i * 4 + 3, none⟩) hb1).trans (h6 3 (by omega))
        have d1 : decide ((i : Int) < (cl : Int)) = true := by simp; omega
        have hq := str_eq c.name s
        have htk : leftH (r.chs.take (i + 1)) s = leftH (r.chs.take i) s ++ (if c.name = s then [] else [c]) := by
          rw [List.take_succ_eq_append_getElem hil, hce, leftH_snoc]
        unfold FV.v at e3
        obtain ⟨dl, hdl⟩ : ∃ dl, dl = c.d.bs.length := ⟨_, rfl⟩
        rw [← hdl] at e3
        have hec : ([.int .i64 c.kind, .string c.name, .int .i64 c.pos, .slice c.d.ao dl c.d.cap] : List Value) = encC c := by unfold encC FV.v; rw [hdl]
        replace hce := Lib.hid hce
        obtain ⟨q, hqm⟩ : ∃ q, q = (leftH (r.chs.take i) s).length := ⟨_, rfl⟩
        have hqi : q ≤ i := by
          rw [hqm]
          refine Nat.le_trans (List.length_filter_le _ _) ?_
          rw [List.length_take]; omega
        obtain ⟨a5, c5, rfl, _, _, _⟩ := hO.slice
        rw [← hqm] at hO ⊢
        replace hqm := Lib.hid hqm
        replace hdl := Lib.hid hdl
        replace hec := Lib.hid hec
        clear h6 hcl3
        by_cases hcs : c.name = s
        · rw [decide_eq_true hcs] at hq
          rw [if_pos hcs, List.append_nil] at htk
          replace htk := Lib.hid htk
          replace hcs := Lib.hid hcs
          go_wp2_with fail
          go_roundw
          case rel => exact ⟨i + 1, by omega, by go_num, by rw [htk.out]; exact hO, hbr⟩
          case measure => simp [intOf]; omega
        · rw [decide_eq_false hcs] at hq
          rw [if_neg hcs] at htk
          replace htk := Lib.hid htk
          replace hcs := Lib.hid hcs
          go_wp2_with (at_builtin; refine Shut.out ?ks1)
          unfold Shut
          change wpList _ _ _ _ _ (wr.alloc (.cells ([.int .i64 c.kind, .string c.name, .int .i64 c.pos, .slice c.d.ao dl c.d.cap] : List Value).toArray 91))
          rw [hec.out]
          refine wpList_app1g rfl _ _ 43 rfl Try.underlying43 hic hc0 hc1 hc2 rfl (by decide) (enc := encC) c rfl hO (by first | rfl | (show Value.slice _ _ _ = _; rfl)) (encC_len _) (encC_one _) (by rw [← hqm.out]; omega) (by rw [← hqm.out]; unfold maxLen; omega) hbr.size (fun g cap3 w3 hown3 hgr3 => ?_)
          rw [← hqm.out] at hown3 hgr3 ⊢
          have hb3 : Below wz.heap.size wz w3 := hbr.grown hgr3.grown hbr.size (fun k hk => (hO.lt k hk).1)
          clear hgr3
          go_wp2_with fail
          go_roundw
          case rel => exact ⟨i + 1, by omega, by go_num, by rw [htk.out]; exact hown3, hb3⟩
          case measure => simp [intOf]; omega
      · obtain rfl : i = cl := by omega
        rw [List.take_of_length_le (by rw [hcl.out]; exact Nat.le_refl _)] at hO
        have d9 : decide ((i : Int) < (i : Int)) = false := by simp
        obtain ⟨a5, c5, hv5, _, _, _⟩ := hO.slice
        obtain ⟨q, hqm⟩ : ∃ q, q = (leftH r.chs s).length := ⟨_, rfl⟩
        rw [← hqm] at hv5
        subst hv5
        have hsy2 := hsy.out
        rw [← hqm] at hsy2
        have hqi : q ≤ i := by
          rw [hqm, hcl.out]
          exact List.length_filter_le _ _
        obtain ⟨nn, hnn⟩ : ∃ nn, nn = (!in0 && !in1 && decide (q = i)) := ⟨_, rfl⟩
        have hrq : rs = if nn = true then (7, M) else (0, { M with chs := leftC M.chs s, safe := if in0 = true then withL M.safe s f.bs else withoutL M.safe s }) := by
          rw [hsy2]
          have hiff : (in0 = false ∧ in1 = false ∧ q = i) ↔ nn = true := by rw [hnn]; cases in0 <;> cases in1 <;> simp
          by_cases hc : nn = true
          · rw [if_pos hc, if_pos (hiff.2 hc)]
          · rw [if_neg hc, if_neg (fun h => hc (hiff.1 h))]
        replace hqm := Lib.hid hqm
        clear hsy hsy2
        have hr2 := h.below hbr
        have c4r := (hbr.cell (p := ⟨mb, 4, none⟩) hmbl).trans c4
        have e9 : ((q : Int) == (i : Int)) = decide (q = i) := by
          by_cases hx : q = i
          · subst hx; simp
          · rw [decide_eq_false hx]; simp; omega
        obtain ⟨dq, hdq⟩ : ∃ dq, dq = decide (q = i) := ⟨_, rfl⟩
        rw [← hdq] at e9 hnn
        replace hnn := Lib.hid hnn
        replace hrq := Lib.hid hrq
        clear hdq
        go_upto_region 12 with fail
        go_cut [80] from 65 (fun s80 wx => s80 = .bool nn ∧ wx = wr)
        case first =>
          cases in0 with
          | true =>
            go_wp2_with fail
            go_meet
            case rel => exact ⟨by rw [hnn.out]; simp, rfl⟩
          | false =>
            cases in1 with
            | true =>
              go_wp2_with fail
              go_meet
              case rel => exact ⟨by rw [hnn.out]; simp, rfl⟩
            | false =>
              go_wp2_with fail
              go_meet
              case rel => exact ⟨by rw [hnn.out]; simp, rfl⟩
        case rest =>
          obtain ⟨rfl, hwc⟩ := hcut
          obtain ⟨wd, hwd⟩ : ∃ wd, wd = wc := ⟨_, rfl⟩
          rw [← hwd] at hwc ⊢
          obtain rfl : wr = wd := hwc.symm
          clear hwd
          cases nn with
          | true =>
            obtain rfl : rs = (7, M) := hrq.out
            have hgo := RStep.same h hbr
            clear hnn hr2
            go_wp2_with fail
            go_ret
            exact ⟨rfl, hgo⟩
          | false =>
            replace hrq : Hid (rs = (0, { M with chs := leftC M.chs s, safe := if in0 = true then withL M.safe s f.bs else withoutL M.safe s })) := hrq
            have h6 := hr2.setChs (hO.base_le hb) (fun c hc => hr2.filc c (List.mem_filter.1 hc).1)
            have hvb : ∀ k, (Value.slice a5 q c5).ownBlock = some k → wz.heap.size ≤ k := fun k hk => (hO.lt k hk).1
            have cf := hr2.blk.frozen 4
            have hmr := hr2.blk.lt
            go_upto_region 15 with fail
            obtain ⟨w6, hw6⟩ : ∃ w6, w6 = wr.setCell ⟨mb, 4, none⟩ (.slice a5 q c5) := ⟨_, rfl⟩
            have hc6 : Chg (RS r mb) wz w6 := by
              rw [hw6]
              exact (((Chg.of_below hbr).mono (fun k h1 h2 => by omega))).setCell _ _ (fun _ => .inl rfl)
            have hrs6 : ∀ k, RS { r with cv := .slice a5 q c5, chs := leftH r.chs s } mb k → RS r mb k ∨ wz.heap.size ≤ k := by
              rintro k (hk | hk)
              · exact .inl (.inl hk)
              · exact .inr (hvb k hk)
            rw [leftH_abs, h.chq] at h6
            rw [← hw6] at h6 ⊢
            clear hw6 cf hO hbr hr2 c4r c4 hvb
            have c36 : w6.cell? ⟨mb, 3, none⟩ = some r.sv := h6.blk.cellAt rfl
            rw [hslS.out] at c36
            have hb6 : base ≤ w6.heap.size := Nat.le_trans hb hc6.size
            have hfa6 : FileAt w6 base f.v f.bs := hfa.chg hc6 (fun k hk cs hb2 => by
              rcases hk with rfl | hk
              · exact h.noU _ rfl _ hb2
              · exact h.row.ne_blk hb2 (by decide) hk)
            cases in0 with
            | true =>
              have hwi := with_any s f base r.sv r.safe w6 h6.safe hls
              rw [hslS.out] at hwi
              have hfv : f.v = .slice f.ao m f.cap := by unfold FV.v; rw [hm.out]
              rw [hfv] at hwi
              replace hfv := Lib.hid hfv
              go_wp2_with fail
              refine hwi.mono ?_
              rintro e w7 ⟨v7, rfl, hfl7, hb7⟩
              have h7 := h6.below hb7
              have hfa7 := hfa6.below hb7 (Nat.le_refl _)
              have h8 := h7.setSafe (hfl7.base_le hb6) (fun p hp => by
                rcases mem_withL hp with rfl | ⟨hp, _⟩
                · exact hfa7
                · exact h7.fils p hp) (show mapL FV.bs (withL r.safe s f) = withL M.safe s f.bs by rw [withL_map, h.sq])
              obtain ⟨a7, k7, hv7, _, _, _⟩ := hfl7.slice
              subst hv7
              obtain ⟨n7, hn7⟩ : ∃ n7, n7 = (withL r.safe s f).length := ⟨_, rfl⟩
              rw [← hn7] at h8 ⊢
              replace hn7 := Lib.hid hn7
              have cf7 := h7.blk.frozen 3
              have c37 := (hb7.cell (p := ⟨mb, 3, none⟩) h6.blk.lt).trans c36
              have hlt7 := h7.blk.lt
              have hst : RStep wz base mb r rs.2 (w7.setCell ⟨mb, 3, none⟩ (.slice a7 n7 k7)) := by
                rw [hrq.out]
                exact RStep.then hc6 hrs6 h8 (((Chg.of_below hb7).mono (fun k h1 h2 => by omega)).setCell _ _ (fun _ => .inl rfl)) (fun k hk => .inl hk)
              have hrs1 : rs.1 = 0 := by rw [hrq.out]
              clear hwi hfl7 h8 h7 h6 hfa7 hfa6 hc6 hrs6 c36 hb7
              dsimp only
              go_wp2_with fail
              go_ret
              exact ⟨by first | rfl | (rw [hrs1]; rfl), hst⟩
            | false =>
              have hwo := without_any s base r.sv r.safe w6 h6.safe hls
              rw [hslS.out] at hwo
              go_wp2_with fail
              refine hwo.mono ?_
              rintro e w7 ⟨v7, rfl, hfl7, hb7⟩
              have h7 := h6.below hb7
              have h8 := h7.setSafe (hfl7.base_le hb6) (fun p hp => h7.fils p (mem_withoutL.1 hp).1) (show mapL FV.bs (withoutL r.safe s) = withoutL M.safe s by rw [withoutL_map, h.sq])
              obtain ⟨a7, k7, hv7, _, _, _⟩ := hfl7.slice
              subst hv7
              obtain ⟨n7, hn7⟩ : ∃ n7, n7 = (withoutL r.safe s).length := ⟨_, rfl⟩
              rw [← hn7] at h8 ⊢
              replace hn7 := Lib.hid hn7
              have cf7 := h7.blk.frozen 3
              have c37 := (hb7.cell (p := ⟨mb, 3, none⟩) h6.blk.lt).trans c36
              have hlt7 := h7.blk.lt
              have hst : RStep wz base mb r rs.2 (w7.setCell ⟨mb, 3, none⟩ (.slice a7 n7 k7)) := by
                rw [hrq.out]
                exact RStep.then hc6 hrs6 h8 (((Chg.of_below hb7).mono (fun k h1 h2 => by omega)).setCell _ _ (fun _ => .inl rfl)) (fun k hk => .inl hk)
              have hrs1 : rs.1 = 0 := by rw [hrq.out]
              clear hwo hfl7 h8 h7 h6 hfa6 hc6 hrs6 c36 hb7
              dsimp only
              go_wp2_with fail
              go_ret
              exact ⟨by first | rfl | (rw [hrs1]; rfl), hst⟩
  · have hwm : syncM M s = (er, M) := by unfold syncM; rw [← her, if_pos he]
    rw [hwm]
    have d1 : ((er : Int) != 0) = true := by simp; omega
    clear hwm he her h hok
    go_enter Try.func42, Try.ntmps42
    go_wp2_with fail
    refine hrd.mono ?_
    rintro e wz ⟨rfl, rfl⟩
    dsimp only
    go_wp2_with fail
    go_ret
    exact ⟨rfl, hgo0⟩
end Go.Proofs.Ytjhbeahkojippaa
