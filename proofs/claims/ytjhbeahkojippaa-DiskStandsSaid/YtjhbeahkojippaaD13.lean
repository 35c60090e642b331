/- Disk: the document's disk: Crash. -/
import Derived.Test.YtjhbeahkojippaaD12
namespace Go.Proofs.Ytjhbeahkojippaa
open Go.RowKit Go.Maps
attribute [local go_sem] Oper.semAt_some
set_option linter.unusedVariables false
set_option linter.unusedSimpArgs false

/-- Behind i changes. -/
def RcI (w : World) (base mb : Nat) (r : RX) (M : DM) (picks : List Int) (i : Nat) (wr : World) : Prop :=
  ∃ (sv : Value) (l : List (ByteArray × FV)), Rf wr base mb { r with sv := sv, safe := l } { M with safe := fallsM picks 0 (M.chs.take i) M.safe } ∧ Chg (fun k => k = mb) w wr
set_option maxRecDepth 100000 in
set_option maxHeartbeats 8000000 in
theorem rcrash_any {base mb : Nat} {r : RX} {M : DM} {N : Nat} (picks : List Int) (pa : Option Addr) (pc : Nat) (w : World) (h : Rf w base mb r M) (hok : OkM N M) (hN : N ≤ 1000000) (hb : base ≤ w.heap.size) (hpk : SlA base 1 (RI .i64) w pa pc picks) :
    Calls Try.prog 43 #[.pointer (some ⟨mb, 0, none⟩), .slice pa picks.length pc] w fun e w' => (∃ v, e = .returned v) ∧ RStep w base mb r (crashM M picks) w' := by
  have hlc := Nat.le_trans (h.len_chs hok) hN
  have hplen := hpk.len
  obtain ⟨pl, hpl⟩ : ∃ pl, pl = picks.length := ⟨_, rfl⟩
  rw [← hpl] at hplen ⊢
  obtain ⟨ca, cc, hcv, hrow⟩ := h.row.sla (E := fun _ cs x => cs = encC x) encC_len (fun _ _ => rfl)
  obtain ⟨cl, hcl⟩ : ∃ cl, cl = r.chs.length := ⟨_, rfl⟩
  have hslC : r.cv = .slice ca cl cc := by rw [hcv, hcl]
  have hMl : M.chs.length = cl := by rw [← h.chq, List.length_map, hcl]
  rw [← hcl] at hlc
  replace hcl := Lib.hid hcl
  replace hpl := Lib.hid hpl
  replace hslC := Lib.hid hslC
  replace hMl := Lib.hid hMl
  have h0 : RcI w base mb r M picks 0 w := ⟨r.sv, r.safe, h, Chg.refl _ _⟩
  clear hcv
  go_enter Try.func43, Try.ntmps43
  go_wp2_with fail
  go_loopw [4] (fun x4 wr => ∃ i : Nat, i ≤ cl ∧ x4 = .int .i64 i ∧ RcI w base mb r M picks i wr) (fun x4 _ => cl - (intOf x4).toNat)
  case atStart => exact ⟨0, Nat.zero_le _, rfl, h0⟩
  case round =>
    clear h0
    obtain ⟨i, hin, rfl, sv, l, hR, hC⟩ := hrel
    have c4 : wr.cell? ⟨mb, 4, none⟩ = some r.cv := hR.blk.cellAt rfl
    rw [hslC.out] at c4
    by_cases hlt : i < cl
    · have hil : i < r.chs.length := by rw [← hcl.out]; exact hlt
      obtain ⟨c, hce⟩ : ∃ c, r.chs[i] = c := ⟨_, rfl⟩
      obtain ⟨ca2, cc2, ecv, hrow2⟩ := hR.row.sla (E := fun _ cs x => cs = encC x) encC_len (fun _ _ => rfl)
      dsimp only at ecv hrow2
      rw [hslC.out, ← hcl.out] at ecv
      simp only [Value.slice.injEq, true_and] at ecv
      obtain ⟨rfl, rfl⟩ := ecv
      obtain ⟨b1, o1, rfl, hb1, _⟩ := hrow2.addr (by omega)
      obtain ⟨cs, hcl3, h6, h7⟩ := hrow2.get i hil
      rw [hce] at h7
      subst h7
      have e0 : wr.cell? ⟨b1, o1 + i * 4, none⟩ = some (.int .i64 c.kind) := h6 0 (by omega)
      have e1 : wr.cell? ⟨b1, o1 + i * 4 + 1, none⟩ = some (.string c.name) := h6 1 (by omega)
      have e2 : wr.cell? ⟨b1, o1 + i * 4 + 2, none⟩ = some (.int .i64 c.pos) := h6 2 (by omega)
      have e3 : wr.cell? ⟨b1, o1 + i * 4 + 3, none⟩ = some c.d.v := h6 3 (by omega)
      have d1 : decide ((i : Int) < (cl : Int)) = true := by simp; omega
      obtain ⟨dl, hdl⟩ : ∃ dl, dl = c.d.bs.length := ⟨_, rfl⟩
      unfold FV.v at e3
      rw [← hdl] at e3
      obtain ⟨p, hp⟩ : ∃ p, p = pickM picks i := ⟨_, rfl⟩
      have hpc : ∀ j, j < pl → ∃ b2 o2 v, pa = some ⟨b2, o2, none⟩ ∧ wr.cell? ⟨b2, o2 + j, none⟩ = some (.int .i64 v) ∧ pickM picks j = v.toNat ∧ b2 < wr.heap.size := fun j hj => by
        have hjp : j < picks.length := by rw [← hpl.out]; exact hj
        have hpr : SlA base 1 (RI .i64) wr pa pc picks := hpk.imp (hC.below (B := base) hb (fun k hk e => by have := h.bb; omega)) (Nat.le_refl _) (fun cs x _ h => h)
        obtain ⟨b2, o2, rfl, hb2, _⟩ := hpr.addr (by omega)
        obtain ⟨cs2, _, h8, h9⟩ := hpr.get j hjp
        have h11 := h8 0 (by omega)
        rw [h9.1] at h11
        refine ⟨b2, o2, picks[j], rfl, by simpa using h11, ?_, by have := h.bb; have := hR.blk.lt; omega⟩
        unfold pickM
        rw [List.getD_eq_getElem?_getD, List.getElem?_eq_getElem hjp]
        rfl
      have hb1l := World.lt_of_cell e0
      dsimp only at hb1l
      replace hce := Lib.hid hce
      replace hdl := Lib.hid hdl
      replace hpc := Lib.hid hpc
      replace hp := Lib.hid hp
      clear h6 hcl3 hrow2
      have hkd : c.kind ≤ 2 ∧ c.name.size ≤ 32 ∧ c.pos + dl ≤ 1073741824 := by
        have h3 := hok.chn c.abs (by rw [← h.chq]; exact List.mem_map.2 ⟨_, by rw [← hce.out]; exact List.getElem_mem hil, rfl⟩)
        refine ⟨h3.1, h3.2.1, ?_⟩
        rw [hdl.out]; exact h3.2.2.1
      have hic : i < M.chs.length := by rw [hMl.out]; exact hlt
      have hci : M.chs[i] = c.abs := by
        have : M.chs[i]? = some c.abs := by rw [← h.chq, List.getElem?_map, List.getElem?_eq_getElem hil, hce.out]; rfl
        rw [List.getElem?_eq_getElem hic] at this
        exact Option.some.inj this
      have hfd : FileAt wr base c.d.v c.d.bs := hR.filc c (by dsimp only; rw [← hce.out]; exact List.getElem_mem hil)
      obtain ⟨S, hS⟩ : ∃ S, S = fallsM picks 0 (M.chs.take i) M.safe := ⟨_, rfl⟩
      have hOF := hok.mid picks (Nat.le_of_lt hic)
      rw [← hS] at hR hOF
      have hll : l.length ≤ 1000000 := by
        have q1 := congrArg List.length hR.sq
        simp only [mapL, List.length_map] at q1
        have q2 := hOF.len
        have q3 := hok.lsc
        omega
      have hgs : getL S c.name = (getL l c.name).map FV.bs := by
        have := hR.sq
        dsimp only at this
        rw [← this, getL_map]
      have hbs : (fileOf l c.name).bs = bytesOf S c.name := by
        unfold fileOf bytesOf
        rw [hgs]
        cases getL l c.name <;> rfl
      obtain ⟨f, hfo⟩ : ∃ f, f = fileOf l c.name := ⟨_, rfl⟩
      have hfa : FileAt wr base f.v f.bs := by rw [hfo]; exact fileOf_at hR.fils c.name
      rw [← hfo] at hbs
      obtain ⟨in1, hin1⟩ : ∃ in1, in1 = (getL S c.name).isSome := ⟨_, rfl⟩
      have hi1 : (getL l c.name).isSome = in1 := by rw [hin1, hgs]; simp
      obtain ⟨m, hm⟩ : ∃ m, m = f.bs.length := ⟨_, rfl⟩
      have hm30 : m ≤ 1073741824 := by rw [hm, hbs]; exact bytesOf_le (fun p hp => (hOF.fil p hp).2) _
      have hfv : f.v = .slice f.ao m f.cap := by rw [hm]; rfl
      have hdv : c.d.v = .slice c.d.ao dl c.d.cap := by rw [hdl.out]; rfl
      obtain ⟨sa, sc, hsv, _, _, _⟩ := hR.safe.slice
      dsimp only at hsv
      obtain ⟨sl, hsl⟩ : ∃ sl, sl = l.length := ⟨_, rfl⟩
      rw [← hsl] at hsv
      have hget : Hid (∀ wy, Below wr.heap.size wr wy → Calls Try.prog 46 #[.slice sa sl sc, .string c.name] wy fun e w' => w' = wy ∧ e = .returned (.tuple #[.slice f.ao m f.cap, .bool in1])) := Lib.hid (fun wy hy => by
        have := rget_any c.name base sv l wy ((hR.below hy).safe) hll
        rw [← hfo, hi1, hfv, hsv] at this
        exact this)
      have hwith : Hid (∀ (f3 : FV) (n3 : Nat) wy, n3 = f3.bs.length → Below wr.heap.size wr wy → Calls Try.prog 52 #[.slice sa sl sc, .string c.name, .slice f3.ao n3 f3.cap] wy fun e w' => ∃ v', e = .returned v' ∧ FlAt w' wy.heap.size v' (withL l c.name f3) ∧ Below wy.heap.size wy w') := Lib.hid (fun f3 n3 wy hn hy => by
        have := with_any c.name f3 base sv l wy ((hR.below hy).safe) hll
        rw [hsv] at this
        subst hn
        exact this)
      have hwout : Hid (∀ wy, Below wr.heap.size wr wy → Calls Try.prog 54 #[.slice sa sl sc, .string c.name] wy fun e w' => ∃ v', e = .returned v' ∧ FlAt w' wy.heap.size v' (withoutL l c.name) ∧ Below wy.heap.size wy w') := Lib.hid (fun wy hy => by
        have := without_any c.name base sv l wy ((hR.below hy).safe) hll
        rw [hsv] at this
        exact this)
      have hbase : base ≤ wr.heap.size := Nat.le_trans hb hC.size
      have hturn : Hid (∀ (W3 : World) (v2 : Value) (l2 : List (ByteArray × FV)) (S2 : Files), Below wr.heap.size wr W3 → FlAt W3 base v2 l2 → (∀ q ∈ l2, FileAt W3 base q.2.v q.2.bs) → mapL FV.bs l2 = S2 → S2 = fallM S c.abs p → RcI w base mb r M picks (i + 1) (W3.setCell ⟨mb, 3, none⟩ v2)) := Lib.hid (by
        intro W3 v2 l2 S2 hb3 hfl hfil hq hS2
        have h3 := (hR.below hb3).setSafe hfl hfil hq
        refine ⟨v2, l2, ?_, ?_⟩
        · rw [fallsM_take picks M.chs M.safe hic, hci, ← hS, ← hp.out, ← hS2]
          exact h3
        · exact (hC.trans ((Chg.of_below hb3).mono (fun k h1 h2 => by omega))).setCell _ _ (fun _ => rfl))
      have hidle : Hid (∀ (W3 : World), Below wr.heap.size wr W3 → S = fallM S c.abs p → RcI w base mb r M picks (i + 1) W3) := Lib.hid (by
        intro W3 hb3 hS2
        refine ⟨sv, l, ?_, hC.trans ((Chg.of_below hb3).mono (fun k h1 h2 => by omega))⟩
        rw [fallsM_take picks M.chs M.safe hic, hci, ← hS, ← hp.out, ← hS2]
        exact hR.below hb3)
      have hab : Hid (fallM S c.abs p = if c.kind = 0 then (if min p dl = 0 ∨ m < c.pos then S else withL S c.name (overB f.bs c.pos (c.d.bs.take p))) else if p = 0 then S else if c.kind = 1 then (match getL S c.name with | some b => if c.pos < b.length then withL S c.name (b.take c.pos) else S | none => S) else withoutL S c.name) := Lib.hid (by
        unfold fallM CH.abs
        dsimp only
        rw [← hbs, ← hm, ← hdl.out]
        cases getL S c.name <;> rfl)
      have c3 : wr.cell? ⟨mb, 3, none⟩ = some (.slice sa sl sc) := by rw [hR.blk.cellAt (i := 3) rfl]; exact congrArg some hsv
      have hsq : Hid (mapL FV.bs l = S) := Lib.hid hR.sq
      have hfls : Hid (∀ (W3 : World), Below wr.heap.size wr W3 → ∀ q ∈ l, FileAt W3 base q.2.v q.2.bs) := Lib.hid (fun W3 hb3 q hq => (hR.fils q hq).below hb3 (Nat.le_refl _))
      have f3r : ∀ (W3 : World), Below wr.heap.size wr W3 → W3.frozen? ⟨mb, 3, none⟩ = false := fun W3 hb3 => (hR.blk.below hb3 hR.blk.lt).frozen 3
      have hmbl := hR.blk.lt
      have hgl0 : Hid (bytesOf S c.name = f.bs) := Lib.hid hbs.symm
      replace f3r := Lib.hid f3r
      replace hin1 := Lib.hid hin1
      replace hm := Lib.hid hm
      replace hS := Lib.hid hS
      replace hsl := Lib.hid hsl
      clear hbs hfo hgs hi1 hfv hdv hsv hOF hci hic
      go_upto_region 4 with fail
      refine Code.wp_world ?_
      intro w5 hw5
      obtain ⟨xb, hxb⟩ : ∃ xb, xb = wr.heap.size := ⟨_, rfl⟩
      have hb5 : Below wr.heap.size wr w5 := by rw [hw5]; exact belowAlloc _ _
      have hx : Blk w5 xb #[.int .i64 c.kind, .string c.name, .int .i64 c.pos, .slice c.d.ao dl c.d.cap] 91 := by rw [hw5, hxb]; exact Blk.new _ _ _
      rw [← hxb]
      clear hw5
      replace hxb := Lib.hid hxb
      obtain ⟨pv, hpv⟩ : ∃ pv : Int, pv = picks.getD i 0 := ⟨_, rfl⟩
      have hpp : p = pv.toNat := by rw [hp.out, hpv]; rfl
      obtain ⟨bp, hbp⟩ : ∃ bp, bp = decide (i < pl ∧ 0 < pv) := ⟨_, rfl⟩
      have hpk5 : ∀ j, j < pl → j = i → ∃ b2 o2, pa = some ⟨b2, o2, none⟩ ∧ w5.cell? ⟨b2, o2 + j, none⟩ = some (.int .i64 pv) := fun j hj hji => by
        subst hji
        have hjp : j < picks.length := by rw [← hpl.out]; exact hj
        have hpr : SlA base 1 (RI .i64) wr pa pc picks := hpk.imp (hC.below (B := base) hb (fun k hk e => by have := h.bb; omega)) (Nat.le_refl _) (fun cs x _ h => h)
        obtain ⟨b2, o2, rfl, hb2, _⟩ := hpr.addr (by omega)
        obtain ⟨cs2, _, h8, h9⟩ := hpr.get j hjp
        have h11 := h8 0 (by omega)
        rw [h9.1] at h11
        refine ⟨b2, o2, rfl, (hb5.cell (p := ⟨b2, o2 + j, none⟩) (by show b2 < _; have := h.bb; have := hR.blk.lt; omega)).trans ?_⟩
        rw [hpv, List.getD_eq_getElem?_getD, List.getElem?_eq_getElem hjp]
        simpa using h11
      have hpno : i < pl ∨ pv = 0 := by
        rcases Nat.lt_or_ge i pl with h1 | h1
        · exact .inl h1
        · right
          rw [hpv, List.getD_eq_getElem?_getD, List.getElem?_eq_none (by rw [← hpl.out]; exact h1)]
          rfl
      have hbp0 : bp = false → p = 0 := fun hb0 => by
        rw [hbp] at hb0
        have := of_decide_eq_false hb0
        rcases hpno with h1 | h1
        · have : ¬ 0 < pv := fun h2 => this ⟨h1, h2⟩
          omega
        · omega
      have hbp1 : bp = true → i < pl ∧ 0 < pv ∧ pv = (p : Int) := fun hb1 => by
        rw [hbp] at hb1
        have := of_decide_eq_true hb1
        exact ⟨this.1, this.2, by omega⟩
      have hbpq : bp = (decide (i < pl) && decide (0 < pv)) := by rw [hbp, Bool.decide_and]
      have x0 := hx.cellAt (i := 0) (v := .int .i64 c.kind) rfl
      have x1 := hx.cellAt (i := 1) (v := .string c.name) rfl
      have x2 := hx.cellAt (i := 2) (v := .int .i64 c.pos) rfl
      have x3 := hx.cellAt (i := 3) (v := .slice c.d.ao dl c.d.cap) rfl
      have c35 := (hb5.cell (p := ⟨mb, 3, none⟩) hmbl).trans c3
      have hxl : xb < w5.heap.size := hx.lt
      replace hpv := Lib.hid hpv
      replace hpp := Lib.hid hpp
      replace hbp0 := Lib.hid hbp0
      replace hbp1 := Lib.hid hbp1
      replace hbpq := Lib.hid hbpq
      replace hpk5 := Lib.hid hpk5
      clear hbp hpno e0 e1 e2 e3 c4 c3 hpc hce
      go_upto_region 5 with fail
      go_cut [35] from 25 to 35 (fun s35 wx => s35 = .bool bp ∧ wx = w5)
      case first =>
        by_cases hipl : i < pl
        · obtain ⟨b2, o2, hpa, hpe⟩ := hpk5.out i hipl rfl
          subst hpa
          have d2 : decide ((i : Int) < (pl : Int)) = true := by simp; omega
          rw [decide_eq_true hipl, Bool.true_and] at hbpq
          go_wp2_with fail
          all_goals (go_meet; case rel => exact ⟨by rw [hbpq.out], rfl⟩)
        · have d2 : decide ((i : Int) < (pl : Int)) = false := by simp; omega
          rw [decide_eq_false hipl, Bool.false_and] at hbpq
          go_wp2_with fail
          go_meet
          case rel => exact ⟨by rw [hbpq.out], rfl⟩
      case rest =>
      obtain ⟨rfl, hwc⟩ := hcut
      obtain ⟨wd, hwd⟩ : ∃ wd, wd = wc := ⟨_, rfl⟩
      rw [← hwd] at hwc ⊢
      clear hwd
      obtain rfl : w5 = wd := hwc.symm
      go_upto_if 35 with fail
      go_cut [6] from 36 to 39 (fun s6 wx => s6 = .int .i64 p ∧ wx = w5)
      case first =>
        cases bp with
        | true =>
          obtain ⟨hipl, hpv0, hpvp⟩ := hbp1.out rfl
          obtain ⟨b2, o2, hpa, hpe⟩ := hpk5.out i hipl rfl
          subst hpa
          go_wp2_with fail
          go_meet
          case rel => exact ⟨rfl, rfl⟩
        | false =>
          have hp0 := hbp0.out rfl
          go_wp2_with fail
          go_meet
          case rel => exact ⟨by rw [hp0]; rfl, rfl⟩
      case rest =>
      obtain ⟨rfl, hwc⟩ := hcut
      obtain ⟨wd, hwd⟩ : ∃ wd, wd = wc := ⟨_, rfl⟩
      rw [← hwd] at hwc ⊢
      clear hwd
      obtain rfl : w5 = wd := hwc.symm
      clear hpk5 hbp0 hbp1 hbpq
      go_upto_region 7 with fail
      refine wp_region_tree (fun wx => wx.cell? ⟨mb, 3, none⟩ = some (.slice sa sl sc) ∧ wx.cell? ⟨xb, 1, none⟩ = some (.string c.name)) 11 12 (by kernel_rfl) rfl (by kernel_rfl) (fun d _ _ _ _ h => by cases d <;> exact h) (⟨c35, x1⟩) (fun opz T hOps hT hTok hHeld => ?_)
      (refine wpTree_q 0 hTok hOps (by kernel_rfl) rfl rfl ⟨?_, ?_, ?_⟩; rotate_left; (focus (intro wx hSx; (try dsimp only at hSx); go_simp; (try with_reducible rfl))); (simp only [Act.put, List.setIfInBounds_toArray, List.set_cons_zero, List.set_cons_succ]))
      (refine wpTree_q 1 hTok hOps (by kernel_rfl) rfl rfl ⟨?_, ?_, ?_⟩; rotate_left; (focus (intro wx hSx; (try dsimp only at hSx); go_simp; (try with_reducible rfl))); (simp only [Act.put, List.setIfInBounds_toArray, List.set_cons_zero, List.set_cons_succ]))
      (refine wpTree_q 2 hTok hOps (by kernel_rfl) rfl rfl ⟨?_, ?_, ?_⟩; rotate_left; (focus (intro wx hSx; (try dsimp only at hSx); go_simp; (try with_reducible rfl))); (simp only [Act.put, List.setIfInBounds_toArray, List.set_cons_zero, List.set_cons_succ]))
      (refine wpTree_q 3 hTok hOps (by kernel_rfl) rfl rfl ⟨?_, ?_, ?_⟩; rotate_left; (focus (intro wx hSx; (try dsimp only at hSx); go_simp; (try with_reducible rfl))); (simp only [Act.put, List.setIfInBounds_toArray, List.set_cons_zero, List.set_cons_succ]))
      (refine wpTree_q 4 hTok hOps (by kernel_rfl) rfl rfl ⟨?_, ?_, ?_⟩; rotate_left; (focus (intro wx hSx; (try dsimp only at hSx); go_simp; (try with_reducible rfl))); (simp only [Act.put, List.setIfInBounds_toArray, List.set_cons_zero, List.set_cons_succ]))
      (refine wpTree_q 5 hTok hOps (by kernel_rfl) rfl rfl ⟨?_, ?_, ?_⟩; rotate_left; (focus (intro wx hSx; (try dsimp only at hSx); go_simp; (try with_reducible rfl))); (simp only [Act.put, List.setIfInBounds_toArray, List.set_cons_zero, List.set_cons_succ]))
      refine wpTree_1 6 hOps (by kernel_rfl) (by decide) rfl (fun K' hK => ?_)
      go_simp
      refine (hget.out _ hb5.drew).mono ?_
      rintro e wz ⟨rfl, rfl⟩
      dsimp only
      refine hK.out _ _ ⟨c35, x1⟩ ?_
      clear hK K'
      try simp only [Act.put, List.setIfInBounds_toArray, List.set_cons_zero, List.set_cons_succ]
      (refine wpTree_q 7 hTok hOps (by kernel_rfl) rfl rfl ⟨?_, ?_, ?_⟩; rotate_left; (focus (intro wx hSx; (try dsimp only at hSx); go_simp; (try with_reducible rfl))); (simp only [Act.put, List.setIfInBounds_toArray, List.set_cons_zero, List.set_cons_succ]))
      (refine wpTree_q 8 hTok hOps (by kernel_rfl) rfl rfl ⟨?_, ?_, ?_⟩; rotate_left; (focus (intro wx hSx; (try dsimp only at hSx); go_simp; (try with_reducible rfl))); (simp only [Act.put, List.setIfInBounds_toArray, List.set_cons_zero, List.set_cons_succ]))
      (refine wpTree_q 10 hTok hOps (by kernel_rfl) rfl rfl ⟨?_, ?_, ?_⟩; rotate_left; (focus (intro wx hSx; (try dsimp only at hSx); go_simp; (try with_reducible rfl))); (simp only [Act.put, List.setIfInBounds_toArray, List.set_cons_zero, List.set_cons_succ]))
      (refine wpTree_q 9 hTok hOps (by kernel_rfl) rfl rfl ⟨?_, ?_, ?_⟩; rotate_left; (focus (intro wx hSx; (try dsimp only at hSx); go_simp; (try with_reducible rfl))); (simp only [Act.put, List.setIfInBounds_toArray, List.set_cons_zero, List.set_cons_succ]))
      refine wpTree_nil hOps (by kernel_rfl) ?_
      refine hT.out _ _ ?_
      simp only [List.drop_succ_cons, List.drop_zero]
      clear hOps hT hTok hHeld
      have hb6 : Below wr.heap.size wr w5.drew := hb5.drew
      obtain ⟨w6, hw6⟩ : ∃ w6, w6 = w5.drew := ⟨_, rfl⟩
      rw [← hw6] at hb6 ⊢
      replace c35 : w6.cell? ⟨mb, 3, none⟩ = some (.slice sa sl sc) := by rw [hw6]; exact c35
      replace x0 : w6.cell? ⟨xb, 0, none⟩ = some (.int .i64 c.kind) := by rw [hw6]; exact x0
      replace x1 : w6.cell? ⟨xb, 1, none⟩ = some (.string c.name) := by rw [hw6]; exact x1
      replace x2 : w6.cell? ⟨xb, 2, none⟩ = some (.int .i64 c.pos) := by rw [hw6]; exact x2
      replace x3 : w6.cell? ⟨xb, 3, none⟩ = some (.slice c.d.ao dl c.d.cap) := by rw [hw6]; exact x3
      replace hxl : xb < w6.heap.size := by rw [hw6]; exact hxl
      clear hw6 hx hb5
      obtain ⟨hk2, hnm, hpd⟩ := hkd
      rcases (by omega : c.kind = 0 ∨ c.kind = 1 ∨ c.kind = 2) with z0 | z0 | z0
      · have k0 : ((c.kind : Int) == 0) = true := by simp; omega
        have k1 : ((c.kind : Int) == 1) = false := by simp; omega
        have hab0 : fallM S c.abs p = if min p dl = 0 ∨ m < c.pos then S else withL S c.name (overB f.bs c.pos (c.d.bs.take p)) := by rw [hab.out, if_pos z0]
        replace hab0 := Lib.hid hab0
        clear z0 hab
        by_cases hA : dl < p
        · have q0 : decide ((dl : Int) < (p : Int)) = true := by simp; omega
          by_cases hq : dl = 0
          · have q1 : ((dl : Int) == 0) = true := by simp; omega
            have hz := hidle.out w6 hb6 (by rw [hab0.out, if_pos (.inl (by omega))])
            replace hz := Lib.hid hz
            clear hfa hfd hturn hidle hget hwith hwout hb6 hfls
            try replace hq := Lib.hid hq
            go_wp2_with fail
            go_roundw
            case rel => exact ⟨i + 1, by omega, by go_num, hz.out⟩
            case measure => simp [intOf]; omega
          · have q1 : ((dl : Int) == 0) = false := by simp; omega
            by_cases hle : c.pos ≤ m
            · have q3 : decide ((c.pos : Int) ≤ (m : Int)) = true := by simp; omega
              have hqc : Hid (dl ≤ c.d.cap) := Lib.hid (by have := (slaf (f := c.d) hfd).1; rw [← hdl.out] at this; omega)
              have htl : (c.d.bs.take dl).length = dl := by rw [List.length_take, ← hdl.out]; omega
              have htp : c.d.bs.take dl = c.d.bs.take p := (by rw [hdl.out, List.take_length, List.take_of_length_le (by rw [← hdl.out]; omega)])
              have hov : Hid (∀ wy, Below wr.heap.size wr wy → Calls Try.prog 53 #[.slice f.ao m f.cap, .int .i64 c.pos, .slice c.d.ao dl c.d.cap] wy fun e w' => ∃ v, e = .returned v ∧ OwnL encU w' wy.heap.size 5 1 v (overB f.bs c.pos (c.d.bs.take p)) ∧ Below wy.heap.size wy w') := Lib.hid (fun wy hy => by
                have := over_any f.ao f.cap f.bs c.pos c.d.ao c.d.cap (c.d.bs.take dl) wy (slaf (hfa.below hy (Nat.le_refl _))) (slaTake (slaf (hfd.below hy (Nat.le_refl _))) dl) (by rw [← hm.out]; exact hle) (by rw [← hm.out]; omega) (by rw [htl]; omega)
                rw [htl, ← hm.out, htp] at this
                exact this)
              replace htl := Lib.hid htl
              replace htp := Lib.hid htp
              go_upto_region 15 with fail
              refine wp_region_tree (fun wx => wx.cell? ⟨mb, 3, none⟩ = some (.slice sa sl sc) ∧ wx.cell? ⟨xb, 1, none⟩ = some (.string c.name) ∧ wx.cell? ⟨xb, 2, none⟩ = some (.int .i64 c.pos) ∧ wx.cell? ⟨xb, 3, none⟩ = some (.slice c.d.ao dl c.d.cap)) 16 19 (by kernel_rfl) rfl (by kernel_rfl) (fun d _ _ _ _ h => by cases d <;> exact h) (⟨c35, x1, x2, x3⟩) (fun opz T hOps hT hTok hHeld => ?_)
              (refine wpTree_q 0 hTok hOps (by kernel_rfl) rfl rfl ⟨?_, ?_, ?_⟩; rotate_left; (focus (intro wx hSx; (try dsimp only at hSx); go_simp; (try with_reducible rfl))); (simp only [Act.put, List.setIfInBounds_toArray, List.set_cons_zero, List.set_cons_succ]))
              (refine wpTree_q 1 hTok hOps (by kernel_rfl) rfl rfl ⟨?_, ?_, ?_⟩; rotate_left; (focus (intro wx hSx; (try dsimp only at hSx); go_simp; (try with_reducible rfl))); (simp only [Act.put, List.setIfInBounds_toArray, List.set_cons_zero, List.set_cons_succ]))
              (refine wpTree_q 2 hTok hOps (by kernel_rfl) rfl rfl ⟨?_, ?_, ?_⟩; rotate_left; (focus (intro wx hSx; (try dsimp only at hSx); go_simp; (try with_reducible rfl))); (simp only [Act.put, List.setIfInBounds_toArray, List.set_cons_zero, List.set_cons_succ]))
              (refine wpTree_q 3 hTok hOps (by kernel_rfl) rfl rfl ⟨?_, ?_, ?_⟩; rotate_left; (focus (intro wx hSx; (try dsimp only at hSx); go_simp; (try with_reducible rfl))); (simp only [Act.put, List.setIfInBounds_toArray, List.set_cons_zero, List.set_cons_succ]))
              (refine wpTree_q 4 hTok hOps (by kernel_rfl) rfl rfl ⟨?_, ?_, ?_⟩; rotate_left; (focus (intro wx hSx; (try dsimp only at hSx); go_simp; (try with_reducible rfl))); (simp only [Act.put, List.setIfInBounds_toArray, List.set_cons_zero, List.set_cons_succ]))
              (refine wpTree_q 5 hTok hOps (by kernel_rfl) rfl rfl ⟨?_, ?_, ?_⟩; rotate_left; (focus (intro wx hSx; (try dsimp only at hSx); go_simp; (try with_reducible rfl))); (simp only [Act.put, List.setIfInBounds_toArray, List.set_cons_zero, List.set_cons_succ]))
              (refine wpTree_q 6 hTok hOps (by kernel_rfl) rfl rfl ⟨?_, ?_, ?_⟩; rotate_left; (focus (intro wx hSx; (try dsimp only at hSx); go_simp; (try with_reducible rfl))); (simp only [Act.put, List.setIfInBounds_toArray, List.set_cons_zero, List.set_cons_succ]))
              (refine wpTree_q 7 hTok hOps (by kernel_rfl) rfl rfl ⟨?_, ?_, ?_⟩; rotate_left; (focus (intro wx hSx; (try dsimp only at hSx); go_simp; (try with_reducible rfl))); (simp only [Act.put, List.setIfInBounds_toArray, List.set_cons_zero, List.set_cons_succ]))
              (refine wpTree_q 8 hTok hOps (by kernel_rfl) rfl rfl ⟨?_, ?_, ?_⟩; rotate_left; (focus (intro wx hSx; (try dsimp only at hSx); go_simp; (try with_reducible rfl))); (simp only [Act.put, List.setIfInBounds_toArray, List.set_cons_zero, List.set_cons_succ]))
              (refine wpTree_q 9 hTok hOps (by kernel_rfl) rfl rfl ⟨?_, ?_, ?_⟩; rotate_left; (focus (intro wx hSx; (try dsimp only at hSx); go_simp; (try with_reducible rfl))); (simp only [Act.put, List.setIfInBounds_toArray, List.set_cons_zero, List.set_cons_succ]))
              (refine wpTree_q 10 hTok hOps (by kernel_rfl) rfl rfl ⟨?_, ?_, ?_⟩; rotate_left; (focus (intro wx hSx; (try dsimp only at hSx); go_simp; (try with_reducible rfl))); (simp only [Act.put, List.setIfInBounds_toArray, List.set_cons_zero, List.set_cons_succ]))
              (refine wpTree_q 11 hTok hOps (by kernel_rfl) rfl rfl ⟨?_, ?_, ?_⟩; rotate_left; (focus (intro wx hSx; (try dsimp only at hSx); go_simp; (try with_reducible rfl))); (simp only [Act.put, List.setIfInBounds_toArray, List.set_cons_zero, List.set_cons_succ]))
              (refine wpTree_q 12 hTok hOps (by kernel_rfl) rfl rfl ⟨?_, ?_, ?_⟩; rotate_left; (focus (intro wx hSx; (try dsimp only at hSx); go_simp; (try with_reducible rfl))); (simp only [Act.put, List.setIfInBounds_toArray, List.set_cons_zero, List.set_cons_succ]))
              (refine wpTree_qg 13 hTok hOps (by kernel_rfl) rfl rfl ⟨?_, ?_, ?_⟩; rotate_left; (focus (intro wx hSx; (try dsimp only at hSx); go_simp; rw [if_pos hqc.out])); (simp only [Act.put, List.setIfInBounds_toArray, List.set_cons_zero, List.set_cons_succ]))
              refine wpTree_1 14 hOps (by kernel_rfl) (by decide) rfl (fun K' hK => ?_)
              go_simp
              refine (hov.out _ hb6.drew).mono ?_
              rintro e w3 ⟨v3, rfl, hown3, hb3d⟩
              have hb36 : Below w6.heap.size w6 w3 := ((Below.refl _ _).drew).trans (hb3d.mono (Nat.le_refl _))
              have hb3 : Below wr.heap.size wr w3 := hb6.trans (hb36.mono hb6.size)
              have hf3 : FileAt w3 base v3 (overB f.bs c.pos (c.d.bs.take p)) := (FileAt.own hown3).base_le (Nat.le_trans hbase (Nat.le_trans hb6.size (Nat.le_refl _)))
              obtain ⟨f3, rfl, hf3b⟩ := hf3.fv
              rw [← hf3b] at hf3
              have c33 := (hb36.cell (p := ⟨mb, 3, none⟩) (World.lt_of_cell c35)).trans c35
              have x13 := (hb36.cell (p := ⟨xb, 1, none⟩) hxl).trans x1
              have x23 := (hb36.cell (p := ⟨xb, 2, none⟩) hxl).trans x2
              have x33 := (hb36.cell (p := ⟨xb, 3, none⟩) hxl).trans x3
              dsimp only
              refine hK.out _ _ ⟨c33, x13, x23, x33⟩ ?_
              clear hK K'
              try simp only [Act.put, List.setIfInBounds_toArray, List.set_cons_zero, List.set_cons_succ]
              refine wpTree_1 15 hOps (by kernel_rfl) (by decide) rfl (fun K' hK => ?_)
              go_simp
              refine (hwith.out f3 _ w3 rfl hb3).mono ?_
              rintro e w4 ⟨v4, rfl, hfl4, hb4d⟩
              have hb4 : Below wr.heap.size wr w4 := hb3.trans (hb4d.mono hb3.size)
              have hz := hturn.out w4 v4 (withL l c.name f3) (withL S c.name f3.bs) hb4 (hfl4.base_le (Nat.le_trans hbase hb3.size)) (fun q hq2 => by
                rcases mem_withL hq2 with rfl | ⟨hq2, _⟩
                · exact hf3.below hb4d (Nat.le_refl _)
                · exact hfls.out w4 hb4 _ hq2) (by rw [withL_map, hsq.out]) (by rw [hf3b, hab0.out, if_neg (by omega)])
              have hx3l : xb < w3.heap.size := Nat.lt_of_lt_of_le hxl hb36.size
              have c34 := (hb4d.cell (p := ⟨mb, 3, none⟩) (World.lt_of_cell c33)).trans c33
              have x14 := (hb4d.cell (p := ⟨xb, 1, none⟩) hx3l).trans x13
              have x24 := (hb4d.cell (p := ⟨xb, 2, none⟩) hx3l).trans x23
              have x34 := (hb4d.cell (p := ⟨xb, 3, none⟩) hx3l).trans x33
              obtain ⟨a4, k4, hv4, _, _, _⟩ := hfl4.slice
              obtain ⟨n4, hn4⟩ : ∃ n4, n4 = (withL l c.name f3).length := ⟨_, rfl⟩
              rw [← hn4] at hv4
              subst hv4
              replace hn4 := Lib.hid hn4
              dsimp only
              refine hK.out _ _ ⟨c34, x14, x24, x34⟩ ?_
              clear hK K'
              try simp only [Act.put, List.setIfInBounds_toArray, List.set_cons_zero, List.set_cons_succ]
              refine wpTree_nil hOps (by kernel_rfl) ?_
              refine hT.out _ _ ?_
              simp only [List.drop_succ_cons, List.drop_zero]
              clear hOps hT hTok hHeld
              have cf4 := f3r.out _ hb4
              have hlt4 : mb < w4.heap.size := Nat.lt_of_lt_of_le hmbl hb4.size
              replace hz := Lib.hid hz
              clear hfa hfd hturn hidle hget hwith hwout hb6 hfls hfl4
              try clear hov
              try clear hf3
              go_wp2_with fail
              go_roundw
              case rel => exact ⟨i + 1, by omega, by go_num, hz.out⟩
              case measure => simp [intOf]; omega
            · have q3 : decide ((c.pos : Int) ≤ (m : Int)) = false := by simp; omega
              have hz := hidle.out w6 hb6 (by rw [hab0.out, if_pos (.inr (by omega))])
              replace hz := Lib.hid hz
              clear hfa hfd hturn hidle hget hwith hwout hb6 hfls
              try replace hq := Lib.hid hq
              go_wp2_with fail
              go_roundw
              case rel => exact ⟨i + 1, by omega, by go_num, hz.out⟩
              case measure => simp [intOf]; omega
        · have q0 : decide ((dl : Int) < (p : Int)) = false := by simp; omega
          by_cases hq : p = 0
          · have q1 : ((p : Int) == 0) = true := by simp; omega
            have hz := hidle.out w6 hb6 (by rw [hab0.out, if_pos (.inl (by omega))])
            replace hz := Lib.hid hz
            clear hfa hfd hturn hidle hget hwith hwout hb6 hfls
            try replace hq := Lib.hid hq
            go_wp2_with fail
            go_roundw
            case rel => exact ⟨i + 1, by omega, by go_num, hz.out⟩
            case measure => simp [intOf]; omega
          · have q1 : ((p : Int) == 0) = false := by simp; omega
            by_cases hle : c.pos ≤ m
            · have q3 : decide ((c.pos : Int) ≤ (m : Int)) = true := by simp; omega
              have hqc : Hid (p ≤ c.d.cap) := Lib.hid (by have := (slaf (f := c.d) hfd).1; rw [← hdl.out] at this; omega)
              have htl : (c.d.bs.take p).length = p := by rw [List.length_take, ← hdl.out]; omega
              have htp : c.d.bs.take p = c.d.bs.take p := rfl
              have hov : Hid (∀ wy, Below wr.heap.size wr wy → Calls Try.prog 53 #[.slice f.ao m f.cap, .int .i64 c.pos, .slice c.d.ao p c.d.cap] wy fun e w' => ∃ v, e = .returned v ∧ OwnL encU w' wy.heap.size 5 1 v (overB f.bs c.pos (c.d.bs.take p)) ∧ Below wy.heap.size wy w') := Lib.hid (fun wy hy => by
                have := over_any f.ao f.cap f.bs c.pos c.d.ao c.d.cap (c.d.bs.take p) wy (slaf (hfa.below hy (Nat.le_refl _))) (slaTake (slaf (hfd.below hy (Nat.le_refl _))) p) (by rw [← hm.out]; exact hle) (by rw [← hm.out]; omega) (by rw [htl]; omega)
                rw [htl, ← hm.out, htp] at this
                exact this)
              replace htl := Lib.hid htl
              replace htp := Lib.hid htp
              go_upto_region 15 with fail
              refine wp_region_tree (fun wx => wx.cell? ⟨mb, 3, none⟩ = some (.slice sa sl sc) ∧ wx.cell? ⟨xb, 1, none⟩ = some (.string c.name) ∧ wx.cell? ⟨xb, 2, none⟩ = some (.int .i64 c.pos) ∧ wx.cell? ⟨xb, 3, none⟩ = some (.slice c.d.ao dl c.d.cap)) 16 19 (by kernel_rfl) rfl (by kernel_rfl) (fun d _ _ _ _ h => by cases d <;> exact h) (⟨c35, x1, x2, x3⟩) (fun opz T hOps hT hTok hHeld => ?_)
              (refine wpTree_q 0 hTok hOps (by kernel_rfl) rfl rfl ⟨?_, ?_, ?_⟩; rotate_left; (focus (intro wx hSx; (try dsimp only at hSx); go_simp; (try with_reducible rfl))); (simp only [Act.put, List.setIfInBounds_toArray, List.set_cons_zero, List.set_cons_succ]))
              (refine wpTree_q 1 hTok hOps (by kernel_rfl) rfl rfl ⟨?_, ?_, ?_⟩; rotate_left; (focus (intro wx hSx; (try dsimp only at hSx); go_simp; (try with_reducible rfl))); (simp only [Act.put, List.setIfInBounds_toArray, List.set_cons_zero, List.set_cons_succ]))
              (refine wpTree_q 2 hTok hOps (by kernel_rfl) rfl rfl ⟨?_, ?_, ?_⟩; rotate_left; (focus (intro wx hSx; (try dsimp only at hSx); go_simp; (try with_reducible rfl))); (simp only [Act.put, List.setIfInBounds_toArray, List.set_cons_zero, List.set_cons_succ]))
              (refine wpTree_q 3 hTok hOps (by kernel_rfl) rfl rfl ⟨?_, ?_, ?_⟩; rotate_left; (focus (intro wx hSx; (try dsimp only at hSx); go_simp; (try with_reducible rfl))); (simp only [Act.put, List.setIfInBounds_toArray, List.set_cons_zero, List.set_cons_succ]))
              (refine wpTree_q 4 hTok hOps (by kernel_rfl) rfl rfl ⟨?_, ?_, ?_⟩; rotate_left; (focus (intro wx hSx; (try dsimp only at hSx); go_simp; (try with_reducible rfl))); (simp only [Act.put, List.setIfInBounds_toArray, List.set_cons_zero, List.set_cons_succ]))
              (refine wpTree_q 5 hTok hOps (by kernel_rfl) rfl rfl ⟨?_, ?_, ?_⟩; rotate_left; (focus (intro wx hSx; (try dsimp only at hSx); go_simp; (try with_reducible rfl))); (simp only [Act.put, List.setIfInBounds_toArray, List.set_cons_zero, List.set_cons_succ]))
              (refine wpTree_q 6 hTok hOps (by kernel_rfl) rfl rfl ⟨?_, ?_, ?_⟩; rotate_left; (focus (intro wx hSx; (try dsimp only at hSx); go_simp; (try with_reducible rfl))); (simp only [Act.put, List.setIfInBounds_toArray, List.set_cons_zero, List.set_cons_succ]))
              (refine wpTree_q 7 hTok hOps (by kernel_rfl) rfl rfl ⟨?_, ?_, ?_⟩; rotate_left; (focus (intro wx hSx; (try dsimp only at hSx); go_simp; (try with_reducible rfl))); (simp only [Act.put, List.setIfInBounds_toArray, List.set_cons_zero, List.set_cons_succ]))
              (refine wpTree_q 8 hTok hOps (by kernel_rfl) rfl rfl ⟨?_, ?_, ?_⟩; rotate_left; (focus (intro wx hSx; (try dsimp only at hSx); go_simp; (try with_reducible rfl))); (simp only [Act.put, List.setIfInBounds_toArray, List.set_cons_zero, List.set_cons_succ]))
              (refine wpTree_q 9 hTok hOps (by kernel_rfl) rfl rfl ⟨?_, ?_, ?_⟩; rotate_left; (focus (intro wx hSx; (try dsimp only at hSx); go_simp; (try with_reducible rfl))); (simp only [Act.put, List.setIfInBounds_toArray, List.set_cons_zero, List.set_cons_succ]))
              (refine wpTree_q 10 hTok hOps (by kernel_rfl) rfl rfl ⟨?_, ?_, ?_⟩; rotate_left; (focus (intro wx hSx; (try dsimp only at hSx); go_simp; (try with_reducible rfl))); (simp only [Act.put, List.setIfInBounds_toArray, List.set_cons_zero, List.set_cons_succ]))
              (refine wpTree_q 11 hTok hOps (by kernel_rfl) rfl rfl ⟨?_, ?_, ?_⟩; rotate_left; (focus (intro wx hSx; (try dsimp only at hSx); go_simp; (try with_reducible rfl))); (simp only [Act.put, List.setIfInBounds_toArray, List.set_cons_zero, List.set_cons_succ]))
              (refine wpTree_q 12 hTok hOps (by kernel_rfl) rfl rfl ⟨?_, ?_, ?_⟩; rotate_left; (focus (intro wx hSx; (try dsimp only at hSx); go_simp; (try with_reducible rfl))); (simp only [Act.put, List.setIfInBounds_toArray, List.set_cons_zero, List.set_cons_succ]))
              (refine wpTree_qg 13 hTok hOps (by kernel_rfl) rfl rfl ⟨?_, ?_, ?_⟩; rotate_left; (focus (intro wx hSx; (try dsimp only at hSx); go_simp; rw [if_pos hqc.out])); (simp only [Act.put, List.setIfInBounds_toArray, List.set_cons_zero, List.set_cons_succ]))
              refine wpTree_1 14 hOps (by kernel_rfl) (by decide) rfl (fun K' hK => ?_)
              go_simp
              refine (hov.out _ hb6.drew).mono ?_
              rintro e w3 ⟨v3, rfl, hown3, hb3d⟩
              have hb36 : Below w6.heap.size w6 w3 := ((Below.refl _ _).drew).trans (hb3d.mono (Nat.le_refl _))
              have hb3 : Below wr.heap.size wr w3 := hb6.trans (hb36.mono hb6.size)
              have hf3 : FileAt w3 base v3 (overB f.bs c.pos (c.d.bs.take p)) := (FileAt.own hown3).base_le (Nat.le_trans hbase (Nat.le_trans hb6.size (Nat.le_refl _)))
              obtain ⟨f3, rfl, hf3b⟩ := hf3.fv
              rw [← hf3b] at hf3
              have c33 := (hb36.cell (p := ⟨mb, 3, none⟩) (World.lt_of_cell c35)).trans c35
              have x13 := (hb36.cell (p := ⟨xb, 1, none⟩) hxl).trans x1
              have x23 := (hb36.cell (p := ⟨xb, 2, none⟩) hxl).trans x2
              have x33 := (hb36.cell (p := ⟨xb, 3, none⟩) hxl).trans x3
              dsimp only
              refine hK.out _ _ ⟨c33, x13, x23, x33⟩ ?_
              clear hK K'
              try simp only [Act.put, List.setIfInBounds_toArray, List.set_cons_zero, List.set_cons_succ]
              refine wpTree_1 15 hOps (by kernel_rfl) (by decide) rfl (fun K' hK => ?_)
              go_simp
              refine (hwith.out f3 _ w3 rfl hb3).mono ?_
              rintro e w4 ⟨v4, rfl, hfl4, hb4d⟩
              have hb4 : Below wr.heap.size wr w4 := hb3.trans (hb4d.mono hb3.size)
              have hz := hturn.out w4 v4 (withL l c.name f3) (withL S c.name f3.bs) hb4 (hfl4.base_le (Nat.le_trans hbase hb3.size)) (fun q hq2 => by
                rcases mem_withL hq2 with rfl | ⟨hq2, _⟩
                · exact hf3.below hb4d (Nat.le_refl _)
                · exact hfls.out w4 hb4 _ hq2) (by rw [withL_map, hsq.out]) (by rw [hf3b, hab0.out, if_neg (by omega)])
              have hx3l : xb < w3.heap.size := Nat.lt_of_lt_of_le hxl hb36.size
              have c34 := (hb4d.cell (p := ⟨mb, 3, none⟩) (World.lt_of_cell c33)).trans c33
              have x14 := (hb4d.cell (p := ⟨xb, 1, none⟩) hx3l).trans x13
              have x24 := (hb4d.cell (p := ⟨xb, 2, none⟩) hx3l).trans x23
              have x34 := (hb4d.cell (p := ⟨xb, 3, none⟩) hx3l).trans x33
              obtain ⟨a4, k4, hv4, _, _, _⟩ := hfl4.slice
              obtain ⟨n4, hn4⟩ : ∃ n4, n4 = (withL l c.name f3).length := ⟨_, rfl⟩
              rw [← hn4] at hv4
              subst hv4
              replace hn4 := Lib.hid hn4
              dsimp only
              refine hK.out _ _ ⟨c34, x14, x24, x34⟩ ?_
              clear hK K'
              try simp only [Act.put, List.setIfInBounds_toArray, List.set_cons_zero, List.set_cons_succ]
              refine wpTree_nil hOps (by kernel_rfl) ?_
              refine hT.out _ _ ?_
              simp only [List.drop_succ_cons, List.drop_zero]
              clear hOps hT hTok hHeld
              have cf4 := f3r.out _ hb4
              have hlt4 : mb < w4.heap.size := Nat.lt_of_lt_of_le hmbl hb4.size
              replace hz := Lib.hid hz
              clear hfa hfd hturn hidle hget hwith hwout hb6 hfls hfl4
              try clear hov
              try clear hf3
              go_wp2_with fail
              go_roundw
              case rel => exact ⟨i + 1, by omega, by go_num, hz.out⟩
              case measure => simp [intOf]; omega
            · have q3 : decide ((c.pos : Int) ≤ (m : Int)) = false := by simp; omega
              have hz := hidle.out w6 hb6 (by rw [hab0.out, if_pos (.inr (by omega))])
              replace hz := Lib.hid hz
              clear hfa hfd hturn hidle hget hwith hwout hb6 hfls
              try replace hq := Lib.hid hq
              go_wp2_with fail
              go_roundw
              case rel => exact ⟨i + 1, by omega, by go_num, hz.out⟩
              case measure => simp [intOf]; omega
      · have k0 : ((c.kind : Int) == 0) = false := by simp; omega
        have k1 : ((c.kind : Int) == 1) = true := by simp; omega
        have hab0 : fallM S c.abs p = if p = 0 then S else (match getL S c.name with | some b => if c.pos < b.length then withL S c.name (b.take c.pos) else S | none => S) := by
          rw [hab.out, if_neg (by omega), if_pos z0]
        replace hab0 := Lib.hid hab0
        clear z0 hab
        by_cases hq : p = 0
        · have q1 : ((p : Int) == 0) = true := by simp; omega
          have hz := hidle.out w6 hb6 (by rw [hab0.out, if_pos hq])
          by_cases hA : dl < p
          · omega
          have q0 : decide ((dl : Int) < (p : Int)) = false := by simp; omega
          replace hz := Lib.hid hz
          clear hfa hfd hturn hidle hget hwith hwout hb6 hfls
          try replace hq := Lib.hid hq
          go_wp2_with fail
          go_roundw
          case rel => exact ⟨i + 1, by omega, by go_num, hz.out⟩
          case measure => simp [intOf]; omega
        · have q1 : ((p : Int) == 0) = false := by simp; omega
          have hin2 := hin1.out
          cases hgl : getL S c.name with
          | none =>
            obtain rfl : in1 = false := by rw [hin2, hgl]; rfl
            have hz := hidle.out w6 hb6 (by rw [hab0.out, if_neg hq, hgl])
            by_cases hA : dl < p
            · have q0 : decide ((dl : Int) < (p : Int)) = true := by simp; omega
              (replace hz := Lib.hid hz
               clear hfa hfd hturn hidle hget hwith hwout hb6 hfls hgl hin2
               try clear hfb
               try replace hq := Lib.hid hq
               go_wp2_with fail
               go_roundw
               case rel => exact ⟨i + 1, by omega, by go_num, hz.out⟩
               case measure => (simp [intOf]; omega))
            · have q0 : decide ((dl : Int) < (p : Int)) = false := by simp; omega
              (replace hz := Lib.hid hz
               clear hfa hfd hturn hidle hget hwith hwout hb6 hfls hgl hin2
               try clear hfb
               try replace hq := Lib.hid hq
               go_wp2_with fail
               go_roundw
               case rel => exact ⟨i + 1, by omega, by go_num, hz.out⟩
               case measure => (simp [intOf]; omega))
          | some bb =>
            obtain rfl : in1 = true := by rw [hin2, hgl]; rfl
            have hfb : f.bs = bb := by rw [← hgl0.out]; unfold bytesOf; rw [hgl]; rfl
            by_cases hle : c.pos < m
            · have q3 : decide ((c.pos : Int) < (m : Int)) = true := by simp; omega
              have hqc : Hid (c.pos ≤ f.cap) := Lib.hid (by have := (slaf hfa).1; rw [← hm.out] at this; omega)
              have hS2 : withL S c.name (f.bs.take c.pos) = fallM S c.abs p := by
                rw [hab0.out, if_neg hq, hgl]
                dsimp only
                rw [if_pos (by rw [← hfb, ← hm.out]; exact hle), hfb]
              have hf3 := hfa.front c.pos (by rw [← hm.out]; omega)
              have htl : Hid (c.pos = (f.bs.take c.pos).length) := Lib.hid (by rw [List.length_take, ← hm.out]; omega)
              replace hS2 := Lib.hid hS2
              replace hin2 := Lib.hid hin2
              replace hgl := Lib.hid hgl
              replace hfb := Lib.hid hfb
              by_cases hA : dl < p
              · have q0 : decide ((dl : Int) < (p : Int)) = true := by simp; omega
                go_upto_region 18 with fail
                refine wp_region_tree (fun wx => wx.cell? ⟨mb, 3, none⟩ = some (.slice sa sl sc) ∧ wx.cell? ⟨xb, 1, none⟩ = some (.string c.name) ∧ wx.cell? ⟨xb, 2, none⟩ = some (.int .i64 c.pos)) 12 15 (by kernel_rfl) rfl (by kernel_rfl) (fun d _ _ _ _ h => by cases d <;> exact h) (⟨c35, x1, x2⟩) (fun opz T hOps hT hTok hHeld => ?_)
                (refine wpTree_q 0 hTok hOps (by kernel_rfl) rfl rfl ⟨?_, ?_, ?_⟩; rotate_left; (focus (intro wx hSx; (try dsimp only at hSx); go_simp; (try with_reducible rfl))); (simp only [Act.put, List.setIfInBounds_toArray, List.set_cons_zero, List.set_cons_succ]))
                (refine wpTree_q 1 hTok hOps (by kernel_rfl) rfl rfl ⟨?_, ?_, ?_⟩; rotate_left; (focus (intro wx hSx; (try dsimp only at hSx); go_simp; (try with_reducible rfl))); (simp only [Act.put, List.setIfInBounds_toArray, List.set_cons_zero, List.set_cons_succ]))
                (refine wpTree_q 2 hTok hOps (by kernel_rfl) rfl rfl ⟨?_, ?_, ?_⟩; rotate_left; (focus (intro wx hSx; (try dsimp only at hSx); go_simp; (try with_reducible rfl))); (simp only [Act.put, List.setIfInBounds_toArray, List.set_cons_zero, List.set_cons_succ]))
                (refine wpTree_q 3 hTok hOps (by kernel_rfl) rfl rfl ⟨?_, ?_, ?_⟩; rotate_left; (focus (intro wx hSx; (try dsimp only at hSx); go_simp; (try with_reducible rfl))); (simp only [Act.put, List.setIfInBounds_toArray, List.set_cons_zero, List.set_cons_succ]))
                (refine wpTree_q 4 hTok hOps (by kernel_rfl) rfl rfl ⟨?_, ?_, ?_⟩; rotate_left; (focus (intro wx hSx; (try dsimp only at hSx); go_simp; (try with_reducible rfl))); (simp only [Act.put, List.setIfInBounds_toArray, List.set_cons_zero, List.set_cons_succ]))
                (refine wpTree_q 5 hTok hOps (by kernel_rfl) rfl rfl ⟨?_, ?_, ?_⟩; rotate_left; (focus (intro wx hSx; (try dsimp only at hSx); go_simp; (try with_reducible rfl))); (simp only [Act.put, List.setIfInBounds_toArray, List.set_cons_zero, List.set_cons_succ]))
                (refine wpTree_q 6 hTok hOps (by kernel_rfl) rfl rfl ⟨?_, ?_, ?_⟩; rotate_left; (focus (intro wx hSx; (try dsimp only at hSx); go_simp; (try with_reducible rfl))); (simp only [Act.put, List.setIfInBounds_toArray, List.set_cons_zero, List.set_cons_succ]))
                (refine wpTree_q 7 hTok hOps (by kernel_rfl) rfl rfl ⟨?_, ?_, ?_⟩; rotate_left; (focus (intro wx hSx; (try dsimp only at hSx); go_simp; (try with_reducible rfl))); (simp only [Act.put, List.setIfInBounds_toArray, List.set_cons_zero, List.set_cons_succ]))
                (refine wpTree_q 8 hTok hOps (by kernel_rfl) rfl rfl ⟨?_, ?_, ?_⟩; rotate_left; (focus (intro wx hSx; (try dsimp only at hSx); go_simp; (try with_reducible rfl))); (simp only [Act.put, List.setIfInBounds_toArray, List.set_cons_zero, List.set_cons_succ]))
                (refine wpTree_q 9 hTok hOps (by kernel_rfl) rfl rfl ⟨?_, ?_, ?_⟩; rotate_left; (focus (intro wx hSx; (try dsimp only at hSx); go_simp; (try with_reducible rfl))); (simp only [Act.put, List.setIfInBounds_toArray, List.set_cons_zero, List.set_cons_succ]))
                (refine wpTree_qg 10 hTok hOps (by kernel_rfl) rfl rfl ⟨?_, ?_, ?_⟩; rotate_left; (focus (intro wx hSx; (try dsimp only at hSx); go_simp; rw [if_pos hqc.out])); (simp only [Act.put, List.setIfInBounds_toArray, List.set_cons_zero, List.set_cons_succ]))
                refine wpTree_1 11 hOps (by kernel_rfl) (by decide) rfl (fun K' hK => ?_)
                go_simp
                refine (hwith.out ⟨f.ao, f.cap, f.bs.take c.pos⟩ _ _ htl.out hb6.drew).mono ?_
                rintro e w4 ⟨v4, rfl, hfl4, hb4d⟩
                have hb46 : Below w6.heap.size w6 w4 := ((Below.refl _ _).drew).trans (hb4d.mono (Nat.le_refl _))
                have hb4 : Below wr.heap.size wr w4 := hb6.trans (hb46.mono hb6.size)
                have hf3v : FV.v ⟨f.ao, f.cap, f.bs.take c.pos⟩ = .slice f.ao c.pos f.cap := by unfold FV.v; rw [← htl.out]
                have hz := hturn.out w4 v4 (withL l c.name ⟨f.ao, f.cap, f.bs.take c.pos⟩) (withL S c.name (f.bs.take c.pos)) hb4 (hfl4.base_le (Nat.le_trans hbase hb6.size)) (fun q hq2 => by
                  rcases mem_withL hq2 with rfl | ⟨hq2, _⟩
                  · exact (by rw [hf3v]; exact hf3.below hb4 (Nat.le_refl _))
                  · exact hfls.out w4 hb4 _ hq2) (by rw [withL_map, hsq.out]) hS2.out
                have c34 := (hb46.cell (p := ⟨mb, 3, none⟩) (World.lt_of_cell c35)).trans c35
                have x14 := (hb46.cell (p := ⟨xb, 1, none⟩) hxl).trans x1
                have x24 := (hb46.cell (p := ⟨xb, 2, none⟩) hxl).trans x2
                replace hf3v := Lib.hid hf3v
                obtain ⟨a4, k4, hv4, _, _, _⟩ := hfl4.slice
                obtain ⟨n4, hn4⟩ : ∃ n4, n4 = (withL l c.name (⟨f.ao, f.cap, f.bs.take c.pos⟩ : FV)).length := ⟨_, rfl⟩
                rw [← hn4] at hv4
                subst hv4
                replace hn4 := Lib.hid hn4
                dsimp only
                refine hK.out _ _ ⟨c34, x14, x24⟩ ?_
                clear hK K'
                try simp only [Act.put, List.setIfInBounds_toArray, List.set_cons_zero, List.set_cons_succ]
                refine wpTree_nil hOps (by kernel_rfl) ?_
                refine hT.out _ _ ?_
                simp only [List.drop_succ_cons, List.drop_zero]
                clear hOps hT hTok hHeld
                have cf4 := f3r.out _ hb4
                have hlt4 : mb < w4.heap.size := Nat.lt_of_lt_of_le hmbl hb4.size
                replace hz := Lib.hid hz
                clear hfa hfd hturn hidle hget hwith hwout hb6 hfls hfl4
                try clear hov
                try clear hf3
                go_wp2_with fail
                go_roundw
                case rel => exact ⟨i + 1, by omega, by go_num, hz.out⟩
                case measure => simp [intOf]; omega
              · have q0 : decide ((dl : Int) < (p : Int)) = false := by simp; omega
                go_upto_region 18 with fail
                refine wp_region_tree (fun wx => wx.cell? ⟨mb, 3, none⟩ = some (.slice sa sl sc) ∧ wx.cell? ⟨xb, 1, none⟩ = some (.string c.name) ∧ wx.cell? ⟨xb, 2, none⟩ = some (.int .i64 c.pos)) 12 15 (by kernel_rfl) rfl (by kernel_rfl) (fun d _ _ _ _ h => by cases d <;> exact h) (⟨c35, x1, x2⟩) (fun opz T hOps hT hTok hHeld => ?_)
                (refine wpTree_q 0 hTok hOps (by kernel_rfl) rfl rfl ⟨?_, ?_, ?_⟩; rotate_left; (focus (intro wx hSx; (try dsimp only at hSx); go_simp; (try with_reducible rfl))); (simp only [Act.put, List.setIfInBounds_toArray, List.set_cons_zero, List.set_cons_succ]))
                (refine wpTree_q 1 hTok hOps (by kernel_rfl) rfl rfl ⟨?_, ?_, ?_⟩; rotate_left; (focus (intro wx hSx; (try dsimp only at hSx); go_simp; (try with_reducible rfl))); (simp only [Act.put, List.setIfInBounds_toArray, List.set_cons_zero, List.set_cons_succ]))
                (refine wpTree_q 2 hTok hOps (by kernel_rfl) rfl rfl ⟨?_, ?_, ?_⟩; rotate_left; (focus (intro wx hSx; (try dsimp only at hSx); go_simp; (try with_reducible rfl))); (simp only [Act.put, List.setIfInBounds_toArray, List.set_cons_zero, List.set_cons_succ]))
                (refine wpTree_q 3 hTok hOps (by kernel_rfl) rfl rfl ⟨?_, ?_, ?_⟩; rotate_left; (focus (intro wx hSx; (try dsimp only at hSx); go_simp; (try with_reducible rfl))); (simp only [Act.put, List.setIfInBounds_toArray, List.set_cons_zero, List.set_cons_succ]))
                (refine wpTree_q 4 hTok hOps (by kernel_rfl) rfl rfl ⟨?_, ?_, ?_⟩; rotate_left; (focus (intro wx hSx; (try dsimp only at hSx); go_simp; (try with_reducible rfl))); (simp only [Act.put, List.setIfInBounds_toArray, List.set_cons_zero, List.set_cons_succ]))
                (refine wpTree_q 5 hTok hOps (by kernel_rfl) rfl rfl ⟨?_, ?_, ?_⟩; rotate_left; (focus (intro wx hSx; (try dsimp only at hSx); go_simp; (try with_reducible rfl))); (simp only [Act.put, List.setIfInBounds_toArray, List.set_cons_zero, List.set_cons_succ]))
                (refine wpTree_q 6 hTok hOps (by kernel_rfl) rfl rfl ⟨?_, ?_, ?_⟩; rotate_left; (focus (intro wx hSx; (try dsimp only at hSx); go_simp; (try with_reducible rfl))); (simp only [Act.put, List.setIfInBounds_toArray, List.set_cons_zero, List.set_cons_succ]))
                (refine wpTree_q 7 hTok hOps (by kernel_rfl) rfl rfl ⟨?_, ?_, ?_⟩; rotate_left; (focus (intro wx hSx; (try dsimp only at hSx); go_simp; (try with_reducible rfl))); (simp only [Act.put, List.setIfInBounds_toArray, List.set_cons_zero, List.set_cons_succ]))
                (refine wpTree_q 8 hTok hOps (by kernel_rfl) rfl rfl ⟨?_, ?_, ?_⟩; rotate_left; (focus (intro wx hSx; (try dsimp only at hSx); go_simp; (try with_reducible rfl))); (simp only [Act.put, List.setIfInBounds_toArray, List.set_cons_zero, List.set_cons_succ]))
                (refine wpTree_q 9 hTok hOps (by kernel_rfl) rfl rfl ⟨?_, ?_, ?_⟩; rotate_left; (focus (intro wx hSx; (try dsimp only at hSx); go_simp; (try with_reducible rfl))); (simp only [Act.put, List.setIfInBounds_toArray, List.set_cons_zero, List.set_cons_succ]))
                (refine wpTree_qg 10 hTok hOps (by kernel_rfl) rfl rfl ⟨?_, ?_, ?_⟩; rotate_left; (focus (intro wx hSx; (try dsimp only at hSx); go_simp; rw [if_pos hqc.out])); (simp only [Act.put, List.setIfInBounds_toArray, List.set_cons_zero, List.set_cons_succ]))
                refine wpTree_1 11 hOps (by kernel_rfl) (by decide) rfl (fun K' hK => ?_)
                go_simp
                refine (hwith.out ⟨f.ao, f.cap, f.bs.take c.pos⟩ _ _ htl.out hb6.drew).mono ?_
                rintro e w4 ⟨v4, rfl, hfl4, hb4d⟩
                have hb46 : Below w6.heap.size w6 w4 := ((Below.refl _ _).drew).trans (hb4d.mono (Nat.le_refl _))
                have hb4 : Below wr.heap.size wr w4 := hb6.trans (hb46.mono hb6.size)
                have hf3v : FV.v ⟨f.ao, f.cap, f.bs.take c.pos⟩ = .slice f.ao c.pos f.cap := by unfold FV.v; rw [← htl.out]
                have hz := hturn.out w4 v4 (withL l c.name ⟨f.ao, f.cap, f.bs.take c.pos⟩) (withL S c.name (f.bs.take c.pos)) hb4 (hfl4.base_le (Nat.le_trans hbase hb6.size)) (fun q hq2 => by
                  rcases mem_withL hq2 with rfl | ⟨hq2, _⟩
                  · exact (by rw [hf3v]; exact hf3.below hb4 (Nat.le_refl _))
                  · exact hfls.out w4 hb4 _ hq2) (by rw [withL_map, hsq.out]) hS2.out
                have c34 := (hb46.cell (p := ⟨mb, 3, none⟩) (World.lt_of_cell c35)).trans c35
                have x14 := (hb46.cell (p := ⟨xb, 1, none⟩) hxl).trans x1
                have x24 := (hb46.cell (p := ⟨xb, 2, none⟩) hxl).trans x2
                replace hf3v := Lib.hid hf3v
                obtain ⟨a4, k4, hv4, _, _, _⟩ := hfl4.slice
                obtain ⟨n4, hn4⟩ : ∃ n4, n4 = (withL l c.name (⟨f.ao, f.cap, f.bs.take c.pos⟩ : FV)).length := ⟨_, rfl⟩
                rw [← hn4] at hv4
                subst hv4
                replace hn4 := Lib.hid hn4
                dsimp only
                refine hK.out _ _ ⟨c34, x14, x24⟩ ?_
                clear hK K'
                try simp only [Act.put, List.setIfInBounds_toArray, List.set_cons_zero, List.set_cons_succ]
                refine wpTree_nil hOps (by kernel_rfl) ?_
                refine hT.out _ _ ?_
                simp only [List.drop_succ_cons, List.drop_zero]
                clear hOps hT hTok hHeld
                have cf4 := f3r.out _ hb4
                have hlt4 : mb < w4.heap.size := Nat.lt_of_lt_of_le hmbl hb4.size
                replace hz := Lib.hid hz
                clear hfa hfd hturn hidle hget hwith hwout hb6 hfls hfl4
                try clear hov
                try clear hf3
                go_wp2_with fail
                go_roundw
                case rel => exact ⟨i + 1, by omega, by go_num, hz.out⟩
                case measure => simp [intOf]; omega
            · have q3 : decide ((c.pos : Int) < (m : Int)) = false := by simp; omega
              have hz := hidle.out w6 hb6 (by rw [hab0.out, if_neg hq, hgl]; dsimp only; rw [if_neg (by rw [← hfb, ← hm.out]; exact hle)])
              by_cases hA : dl < p
              · have q0 : decide ((dl : Int) < (p : Int)) = true := by simp; omega
                (replace hz := Lib.hid hz
                 clear hfa hfd hturn hidle hget hwith hwout hb6 hfls hgl hin2
                 try clear hfb
                 try replace hq := Lib.hid hq
                 go_wp2_with fail
                 go_roundw
                 case rel => exact ⟨i + 1, by omega, by go_num, hz.out⟩
                 case measure => (simp [intOf]; omega))
              · have q0 : decide ((dl : Int) < (p : Int)) = false := by simp; omega
                (replace hz := Lib.hid hz
                 clear hfa hfd hturn hidle hget hwith hwout hb6 hfls hgl hin2
                 try clear hfb
                 try replace hq := Lib.hid hq
                 go_wp2_with fail
                 go_roundw
                 case rel => exact ⟨i + 1, by omega, by go_num, hz.out⟩
                 case measure => (simp [intOf]; omega))
      · have k0 : ((c.kind : Int) == 0) = false := by simp; omega
        have k1 : ((c.kind : Int) == 1) = false := by simp; omega
        have hab0 : fallM S c.abs p = if p = 0 then S else withoutL S c.name := by
          rw [hab.out, if_neg (by omega)]
          by_cases hq : p = 0
          · rw [if_pos hq, if_pos hq]
          · rw [if_neg hq, if_neg hq, if_neg (by omega)]
        replace hab0 := Lib.hid hab0
        clear z0 hab
        by_cases hq : p = 0
        · have q1 : ((p : Int) == 0) = true := by simp; omega
          have hz := hidle.out w6 hb6 (by rw [hab0.out, if_pos hq])
          by_cases hA : dl < p
          · omega
          have q0 : decide ((dl : Int) < (p : Int)) = false := by simp; omega
          replace hz := Lib.hid hz
          clear hfa hfd hturn hidle hget hwith hwout hb6 hfls
          try replace hq := Lib.hid hq
          go_wp2_with fail
          go_roundw
          case rel => exact ⟨i + 1, by omega, by go_num, hz.out⟩
          case measure => simp [intOf]; omega
        · have q1 : ((p : Int) == 0) = false := by simp; omega
          have hS2 : withoutL S c.name = fallM S c.abs p := by rw [hab0.out, if_neg hq]
          replace hS2 := Lib.hid hS2
          by_cases hA : dl < p
          · have q0 : decide ((dl : Int) < (p : Int)) = true := by simp; omega
            go_upto_region 12 with fail
            refine wp_region_tree (fun wx => wx.cell? ⟨mb, 3, none⟩ = some (.slice sa sl sc) ∧ wx.cell? ⟨xb, 1, none⟩ = some (.string c.name)) 8 11 (by kernel_rfl) rfl (by kernel_rfl) (fun d _ _ _ _ h => by cases d <;> exact h) (⟨c35, x1⟩) (fun opz T hOps hT hTok hHeld => ?_)
            (refine wpTree_q 0 hTok hOps (by kernel_rfl) rfl rfl ⟨?_, ?_, ?_⟩; rotate_left; (focus (intro wx hSx; (try dsimp only at hSx); go_simp; (try with_reducible rfl))); (simp only [Act.put, List.setIfInBounds_toArray, List.set_cons_zero, List.set_cons_succ]))
            (refine wpTree_q 1 hTok hOps (by kernel_rfl) rfl rfl ⟨?_, ?_, ?_⟩; rotate_left; (focus (intro wx hSx; (try dsimp only at hSx); go_simp; (try with_reducible rfl))); (simp only [Act.put, List.setIfInBounds_toArray, List.set_cons_zero, List.set_cons_succ]))
            (refine wpTree_q 2 hTok hOps (by kernel_rfl) rfl rfl ⟨?_, ?_, ?_⟩; rotate_left; (focus (intro wx hSx; (try dsimp only at hSx); go_simp; (try with_reducible rfl))); (simp only [Act.put, List.setIfInBounds_toArray, List.set_cons_zero, List.set_cons_succ]))
            (refine wpTree_q 3 hTok hOps (by kernel_rfl) rfl rfl ⟨?_, ?_, ?_⟩; rotate_left; (focus (intro wx hSx; (try dsimp only at hSx); go_simp; (try with_reducible rfl))); (simp only [Act.put, List.setIfInBounds_toArray, List.set_cons_zero, List.set_cons_succ]))
            (refine wpTree_q 4 hTok hOps (by kernel_rfl) rfl rfl ⟨?_, ?_, ?_⟩; rotate_left; (focus (intro wx hSx; (try dsimp only at hSx); go_simp; (try with_reducible rfl))); (simp only [Act.put, List.setIfInBounds_toArray, List.set_cons_zero, List.set_cons_succ]))
            (refine wpTree_q 5 hTok hOps (by kernel_rfl) rfl rfl ⟨?_, ?_, ?_⟩; rotate_left; (focus (intro wx hSx; (try dsimp only at hSx); go_simp; (try with_reducible rfl))); (simp only [Act.put, List.setIfInBounds_toArray, List.set_cons_zero, List.set_cons_succ]))
            (refine wpTree_q 6 hTok hOps (by kernel_rfl) rfl rfl ⟨?_, ?_, ?_⟩; rotate_left; (focus (intro wx hSx; (try dsimp only at hSx); go_simp; (try with_reducible rfl))); (simp only [Act.put, List.setIfInBounds_toArray, List.set_cons_zero, List.set_cons_succ]))
            refine wpTree_1 7 hOps (by kernel_rfl) (by decide) rfl (fun K' hK => ?_)
            go_simp
            refine (hwout.out _ hb6.drew).mono ?_
            rintro e w4 ⟨v4, rfl, hfl4, hb4d⟩
            have hb46 : Below w6.heap.size w6 w4 := ((Below.refl _ _).drew).trans (hb4d.mono (Nat.le_refl _))
            have hb4 : Below wr.heap.size wr w4 := hb6.trans (hb46.mono hb6.size)
            have hz := hturn.out w4 v4 (withoutL l c.name) (withoutL S c.name) hb4 (hfl4.base_le (Nat.le_trans hbase hb6.size)) (fun q hq2 => hfls.out w4 hb4 _ (mem_withoutL.1 hq2).1) (by rw [withoutL_map, hsq.out]) hS2.out
            have c34 := (hb46.cell (p := ⟨mb, 3, none⟩) (World.lt_of_cell c35)).trans c35
            have x14 := (hb46.cell (p := ⟨xb, 1, none⟩) hxl).trans x1
            obtain ⟨a4, k4, hv4, _, _, _⟩ := hfl4.slice
            obtain ⟨n4, hn4⟩ : ∃ n4, n4 = (withoutL l c.name).length := ⟨_, rfl⟩
            rw [← hn4] at hv4
            subst hv4
            replace hn4 := Lib.hid hn4
            dsimp only
            refine hK.out _ _ ⟨c34, x14⟩ ?_
            clear hK K'
            try simp only [Act.put, List.setIfInBounds_toArray, List.set_cons_zero, List.set_cons_succ]
            refine wpTree_nil hOps (by kernel_rfl) ?_
            refine hT.out _ _ ?_
            simp only [List.drop_succ_cons, List.drop_zero]
            clear hOps hT hTok hHeld
            have cf4 := f3r.out _ hb4
            have hlt4 : mb < w4.heap.size := Nat.lt_of_lt_of_le hmbl hb4.size
            replace hz := Lib.hid hz
            clear hfa hfd hturn hidle hget hwith hwout hb6 hfls hfl4
            try clear hov
            try clear hf3
            go_wp2_with fail
            go_roundw
            case rel => exact ⟨i + 1, by omega, by go_num, hz.out⟩
            case measure => simp [intOf]; omega
          · have q0 : decide ((dl : Int) < (p : Int)) = false := by simp; omega
            go_upto_region 12 with fail
            refine wp_region_tree (fun wx => wx.cell? ⟨mb, 3, none⟩ = some (.slice sa sl sc) ∧ wx.cell? ⟨xb, 1, none⟩ = some (.string c.name)) 8 11 (by kernel_rfl) rfl (by kernel_rfl) (fun d _ _ _ _ h => by cases d <;> exact h) (⟨c35, x1⟩) (fun opz T hOps hT hTok hHeld => ?_)
            (refine wpTree_q 0 hTok hOps (by kernel_rfl) rfl rfl ⟨?_, ?_, ?_⟩; rotate_left; (focus (intro wx hSx; (try dsimp only at hSx); go_simp; (try with_reducible rfl))); (simp only [Act.put, List.setIfInBounds_toArray, List.set_cons_zero, List.set_cons_succ]))
            (refine wpTree_q 1 hTok hOps (by kernel_rfl) rfl rfl ⟨?_, ?_, ?_⟩; rotate_left; (focus (intro wx hSx; (try dsimp only at hSx); go_simp; (try with_reducible rfl))); (simp only [Act.put, List.setIfInBounds_toArray, List.set_cons_zero, List.set_cons_succ]))
            (refine wpTree_q 2 hTok hOps (by kernel_rfl) rfl rfl ⟨?_, ?_, ?_⟩; rotate_left; (focus (intro wx hSx; (try dsimp only at hSx); go_simp; (try with_reducible rfl))); (simp only [Act.put, List.setIfInBounds_toArray, List.set_cons_zero, List.set_cons_succ]))
            (refine wpTree_q 3 hTok hOps (by kernel_rfl) rfl rfl ⟨?_, ?_, ?_⟩; rotate_left; (focus (intro wx hSx; (try dsimp only at hSx); go_simp; (try with_reducible rfl))); (simp only [Act.put, List.setIfInBounds_toArray, List.set_cons_zero, List.set_cons_succ]))
            (refine wpTree_q 4 hTok hOps (by kernel_rfl) rfl rfl ⟨?_, ?_, ?_⟩; rotate_left; (focus (intro wx hSx; (try dsimp only at hSx); go_simp; (try with_reducible rfl))); (simp only [Act.put, List.setIfInBounds_toArray, List.set_cons_zero, List.set_cons_succ]))
            (refine wpTree_q 5 hTok hOps (by kernel_rfl) rfl rfl ⟨?_, ?_, ?_⟩; rotate_left; (focus (intro wx hSx; (try dsimp only at hSx); go_simp; (try with_reducible rfl))); (simp only [Act.put, List.setIfInBounds_toArray, List.set_cons_zero, List.set_cons_succ]))
            (refine wpTree_q 6 hTok hOps (by kernel_rfl) rfl rfl ⟨?_, ?_, ?_⟩; rotate_left; (focus (intro wx hSx; (try dsimp only at hSx); go_simp; (try with_reducible rfl))); (simp only [Act.put, List.setIfInBounds_toArray, List.set_cons_zero, List.set_cons_succ]))
            refine wpTree_1 7 hOps (by kernel_rfl) (by decide) rfl (fun K' hK => ?_)
            go_simp
            refine (hwout.out _ hb6.drew).mono ?_
            rintro e w4 ⟨v4, rfl, hfl4, hb4d⟩
            have hb46 : Below w6.heap.size w6 w4 := ((Below.refl _ _).drew).trans (hb4d.mono (Nat.le_refl _))
            have hb4 : Below wr.heap.size wr w4 := hb6.trans (hb46.mono hb6.size)
            have hz := hturn.out w4 v4 (withoutL l c.name) (withoutL S c.name) hb4 (hfl4.base_le (Nat.le_trans hbase hb6.size)) (fun q hq2 => hfls.out w4 hb4 _ (mem_withoutL.1 hq2).1) (by rw [withoutL_map, hsq.out]) hS2.out
            have c34 := (hb46.cell (p := ⟨mb, 3, none⟩) (World.lt_of_cell c35)).trans c35
            have x14 := (hb46.cell (p := ⟨xb, 1, none⟩) hxl).trans x1
            obtain ⟨a4, k4, hv4, _, _, _⟩ := hfl4.slice
            obtain ⟨n4, hn4⟩ : ∃ n4, n4 = (withoutL l c.name).length := ⟨_, rfl⟩
            rw [← hn4] at hv4
            subst hv4
            replace hn4 := Lib.hid hn4
            dsimp only
            refine hK.out _ _ ⟨c34, x14⟩ ?_
            clear hK K'
            try simp only [Act.put, List.setIfInBounds_toArray, List.set_cons_zero, List.set_cons_succ]
            refine wpTree_nil hOps (by kernel_rfl) ?_
            refine hT.out _ _ ?_
            simp only [List.drop_succ_cons, List.drop_zero]
            clear hOps hT hTok hHeld
            have cf4 := f3r.out _ hb4
            have hlt4 : mb < w4.heap.size := Nat.lt_of_lt_of_le hmbl hb4.size
            replace hz := Lib.hid hz
            clear hfa hfd hturn hidle hget hwith hwout hb6 hfls hfl4
            try clear hov
            try clear hf3
            go_wp2_with fail
            go_roundw
            case rel => exact ⟨i + 1, by omega, by go_num, hz.out⟩
            case measure => simp [intOf]; omega
    · obtain rfl : i = cl := by omega
      have d9 : decide ((i : Int) < (i : Int)) = false := by simp
      rw [List.take_of_length_le (by rw [hMl.out]; exact Nat.le_refl _)] at hR
      have c3 : wr.cell? ⟨mb, 3, none⟩ = some sv := hR.blk.cellAt rfl
      have c2 : wr.cell? ⟨mb, 2, none⟩ = some r.nv := hR.blk.cellAt rfl
      have c1 : wr.cell? ⟨mb, 1, none⟩ = some (.bool M.fails) := hR.blk.cellAt rfl
      have f1 := hR.blk.frozen 1
      have f2 := hR.blk.frozen 2
      have f4 := hR.blk.frozen 4
      have hml := hR.blk.lt
      obtain ⟨sa, sc, hsv, _, _, _⟩ := hR.safe.slice
      dsimp only at hsv
      obtain ⟨sl, hsl⟩ : ∃ sl, sl = l.length := ⟨_, rfl⟩
      rw [← hsl] at hsv
      subst hsv
      replace hsl := Lib.hid hsl
      obtain ⟨hfin, hc5⟩ := hR.crash
      dsimp only at hfin hc5
      have hst : RStep w base mb r (crashM M picks) (((wr.setCell ⟨mb, 2, none⟩ (.slice sa sl sc)).setCell ⟨mb, 4, none⟩ (.slice none 0 0)).setCell ⟨mb, 1, none⟩ (.bool false)) :=
        ⟨_, hfin, (hC.trans hc5).mono (fun k _ e => .inl e), fun k hk => by
          rcases hk with hk | hk
          · exact .inl (.inl hk)
          · cases hk⟩
      clear hfin hc5 hR hC
      go_wp2_with fail
      go_end0
      exact ⟨⟨_, rfl⟩, hst⟩
end Go.Proofs.Ytjhbeahkojippaa
