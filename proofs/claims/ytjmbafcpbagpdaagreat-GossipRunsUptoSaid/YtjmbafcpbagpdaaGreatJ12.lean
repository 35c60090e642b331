/- Gossip: New. -/
import Derived.Test.YtjmbafcpbagpdaaGreatJ11
namespace Go.Proofs.YtjmbafcpbagpdaaGreat
open Go.RowKit Go.Shelf Go.Maps
set_option linter.unusedVariables false
set_option linter.unusedSimpArgs false

theorem neg_any (c : TCount) (w : World) : Calls Tryz.prog 25 #[mkKJ c] w fun e w' => e = .returned (.bool (decide (c.fN < 0))) ∧ Below w.heap.size w w' := by
  obtain ⟨⟨cl, ⟨ce, cr⟩⟩, cn⟩ := c
  unfold mkKJ
  dsimp only
  go_enter Tryz.func25, Tryz.ntmps25
  go_wp2_with fail
  go_ret
  exact ⟨rfl, (by repeat (first | exact Below.refl _ _ | refine below_drewN ?_ _ | refine Below.drew ?_ | (refine Below.alloc ?_ (by simp; try omega) _)))⟩
set_option maxRecDepth 100000 in
set_option maxHeartbeats 2000000 in
theorem negi_any (l : List TCount) (ao : Option Addr) (cap : Nat) (w : World) (hl : SlA w.heap.size 4 (RCount w.heap.size) w ao cap l) (hz : l.length * 32 ≤ 140737488355328) :
    Calls Tryz.prog 49 #[.slice ao l.length cap, .func (.func 25) #[] #[]] w fun e w' =>
      (∃ i : Int, e = .returned (.int .i64 i) ∧ (0 ≤ i ↔ ∃ c ∈ l, c.fN < 0)) ∧ Below w.heap.size w w' := by
  obtain ⟨n, hn⟩ : ∃ n, n = l.length := ⟨_, rfl⟩
  rw [← hn] at hz ⊢
  replace hn := Lib.hid hn
  go_enter Tryz.func49, Tryz.ntmps49
  go_wp2_with fail
  go_loopw [8] (fun x8 wr => ∃ i : Nat, i ≤ n ∧ x8 = .int .i64 i ∧ Hid (∀ j (h : j < l.length), j < i → ¬ l[j].fN < 0) ∧ Below w.heap.size w wr) (fun x8 _ => n - (intOf x8).toNat)
  case atStart => exact ⟨0, Nat.zero_le _, rfl, Lib.hid (fun j _ h => by omega), Below.refl _ _⟩
  case round =>
    obtain ⟨i, hi, rfl, hlf, hbr⟩ := hrel
    by_cases hlt : i < n
    · have hil : i < l.length := by rw [← hn.out]; exact hlt
      obtain ⟨b2, off2, rfl, hb2l, _⟩ := hl.addr (by omega)
      obtain ⟨c, hce⟩ : ∃ c, l[i] = c := ⟨_, rfl⟩
      obtain ⟨e0, e1, e2, e3, _⟩ := RCount.at (hl.imp hbr (Nat.le_refl _) (fun _ _ _ h => h.imp hbr (Nat.le_refl _))) hil hce
      have hcall := neg_any c wr
      unfold mkKJ at hcall
      replace hce := Lib.hid hce
      go_wp2_with fail
      refine hcall.mono ?_
      rintro e w2 ⟨rfl, hb2⟩
      have hbw := hbr.trans (hb2.mono hbr.size)
      dsimp only
      by_cases hq : c.fN < 0
      · rw [decide_eq_true hq]
        have hfin : ∃ c ∈ l, c.fN < 0 := ⟨c, by rw [← hce.out]; exact List.getElem_mem hil, hq⟩
        clear hcall hq hce e0 e1 e2 e3 hlf
        replace hfin := Lib.hid hfin
        go_wp2_with fail
        go_ret
        exact ⟨⟨i, rfl, fun _ => hfin.out, fun _ => by omega⟩, hbw⟩
      · rw [decide_eq_false hq]
        have hlf2 : Hid (∀ j (h : j < l.length), j < i + 1 → ¬ l[j].fN < 0) := Lib.hid (fun j h hj => by
          by_cases hji : j = i
          · subst hji; rw [hce.out]; exact hq
          · have := hlf.out j h (by omega)
            omega)
        clear hcall hq hce e0 e1 e2 e3 hlf
        go_wp2_with fail
        go_roundw
        case rel => exact ⟨i + 1, by omega, by go_num, hlf2, hbw⟩
        case measure => simp [intOf]; omega
    · obtain rfl : i = n := by omega
      have hall : ¬ ∃ c ∈ l, c.fN < 0 := by
        rintro ⟨c, hc, h⟩
        obtain ⟨j, hj, rfl⟩ := List.getElem_of_mem hc
        exact hlf.out j hj (by rw [hn.out]; exact hj) h
      have d9 : decide ((i : Int) < (i : Int)) = false := by simp
      replace hall := Lib.hid hall
      clear hlf
      go_wp2_with fail
      go_ret
      exact ⟨⟨-1, rfl, fun h => absurd h (by omega), fun h => absurd h hall.out⟩, hbr⟩
open Classical in
theorem negc_any (l : List TCount) (ao : Option Addr) (cap : Nat) (w : World) (hl : SlA w.heap.size 4 (RCount w.heap.size) w ao cap l) (hz : l.length * 32 ≤ 140737488355328) :
    Calls Tryz.prog 24 #[.slice ao l.length cap, .func (.func 25) #[] #[]] w fun e w' =>
      e = .returned (.bool (decide (∃ c ∈ l, c.fN < 0))) ∧ Below w.heap.size w w' := by
  have hi := negi_any l ao cap w hl hz
  obtain ⟨n, hn⟩ : ∃ n, n = l.length := ⟨_, rfl⟩
  rw [← hn] at hi ⊢
  clear hn hl hz
  obtain ⟨bR, hbR⟩ : ∃ bR, bR = decide (∃ c ∈ l, c.fN < 0) := ⟨_, rfl⟩
  rw [← hbR]
  replace hbR := Lib.hid hbR
  go_enter Tryz.func24, Tryz.ntmps24
  go_wp2_with fail
  refine hi.mono ?_
  rintro e w1 ⟨⟨i, rfl, hq⟩, hb⟩
  by_cases h : 0 ≤ i
  · have d : decide (0 ≤ i) = true := by simpa using h
    have hr : bR = true := by rw [hbR.out]; exact decide_eq_true (hq.1 h)
    subst hr
    clear hq h hi
    dsimp only
    go_wp2_with fail
    go_ret
    exact ⟨rfl, hb⟩
  · have d : decide (0 ≤ i) = false := by simpa using h
    have hr : bR = false := by rw [hbR.out]; exact decide_eq_false (fun h2 => h (hq.2 h2))
    subst hr
    clear hq h hi
    dsimp only
    go_wp2_with fail
    go_ret
    exact ⟨rfl, hb⟩
end Go.Proofs.YtjmbafcpbagpdaaGreat

/- Gossip: New: the walk. -/
namespace Go.Proofs.YtjmbafcpbagpdaaGreat
open Go.RowKit Go.Shelf Go.Maps
set_option linter.unusedVariables false
set_option linter.unusedSimpArgs false

def encPt (t : Nat) : List Value := [.pointer (some ⟨t, 0, none⟩)]
theorem encPt_len (t : Nat) : (encPt t).length = 1 := rfl
theorem encPt_one (t : Nat) : ∀ u ∈ encPt t, u.oneCell' = true := by
  intro u hu
  simp only [encPt, List.mem_singleton] at hu
  subst hu
  rfl
theorem infoP : (Tryz.prog.info? 61).map (fun i => (i.zero, i.size, i.bytes)) = some (some (.pointer none), 1, 8) := by kernel_rfl
theorem eqlP_nil (u : World) (m cap : Nat) : (binOp BinOp.eql 78 (.slice none m cap) (.slice none 0 0)).run Tryz.prog u = .ok (.bool true) u := by kernel_rfl
theorem eqlP_some (u : World) (a : Addr) (m cap : Nat) : (binOp BinOp.eql 78 (.slice (some a) m cap) (.slice none 0 0)).run Tryz.prog u = .ok (.bool false) u := by kernel_rfl
attribute [local go_sem] eqlP_nil eqlP_some

set_option maxRecDepth 100000 in
set_option maxHeartbeats 1000000 in
theorem cloneP (l : List Nat) (base : Nat) (v : Value) (w : World) (h : OwnL encPt w base 61 1 v l) (hz : l.length ≤ 1000) :
    Calls Tryz.prog 26 #[v] w fun e w' => Below w.heap.size w w' ∧ ∃ v', e = .returned v' ∧ OwnL encPt w' w.heap.size 61 1 v' l := by
  obtain ⟨jP, hiP, hP0, hP1, hP2⟩ := info_parts infoP
  obtain ⟨ao, cap, rfl, hx⟩ := h.sla (E := fun _ cs x => cs = encPt x) encPt_len (fun _ _ => rfl)
  obtain ⟨m, hm⟩ : ∃ m, m = l.length := ⟨_, rfl⟩
  rw [← hm]
  clear h
  cases ao with
  | none =>
    have hm0 : l = [] := by
      cases l with
      | nil => rfl
      | cons a r =>
        obtain ⟨b, off, e, _⟩ := hx.addr (by simp)
        cases e
    subst hm0
    simp only [List.length_nil] at hm
    subst hm
    go_enter Tryz.func26, Tryz.ntmps26
    go_wp2_with fail
    go_ret
    exact ⟨Below.refl _ _, _, rfl, OwnL.nil _ _ _ _ _⟩
  | some a =>
    replace hm := Lib.hid hm
    go_enter Tryz.func26, Tryz.ntmps26
    go_wp2_with (at_builtin; refine Shut.out ?ka)
    unfold Shut
    have hown0 : OwnL encPt (w.alloc (.cells #[] 61)) w.heap.size 61 1 (.slice (some ⟨w.heap.size, 0, none⟩) 0 0) [] := OwnL.of_blk (xs := []) (cap := 0) (Blk.new w #[] 61) (Nat.le_refl _) (Nat.le_refl 0) (by unfold maxLen; omega) rfl rfl rfl
    have hii2 : SlA w.heap.size 1 (fun _ cs x => cs = encPt x) (w.alloc (.cells #[] 61)) (some a) cap l := hx.imp (below_allocJ w _) (Nat.le_refl _) (fun _ _ _ h => h)
    refine wpList_app_sla (xs := []) (ys := l) (enc := encPt) (base := w.heap.size) _ rfl _ _ 78 rfl Tryz.underlying78 hiP hP0 hP1 hP2 rfl (by decide) rfl hown0 (by show Value.slice (some a) m cap = _; rw [hm.out]) hii2 encPt_len encPt_one (by unfold maxLen; simp; omega) (by simp; omega) (by simp) (fun v3 w3 hown3 hgr3 => ?_)
    rw [List.nil_append] at hown3
    have hb23 : Below w.heap.size w w3 := (below_allocJ w (.cells #[] 61)).grown hgr3 (by simp) (fun g hg => by simp [Act.eval, Value.ownBlock] at hg; omega)
    clear hown0 hii2 hgr3
    go_wp2_with fail
    go_ret
    exact ⟨hb23, _, rfl, hown3⟩

theorem cs_nil {w : World} {base tb : Nat} {x : TrX} {ops : List TOp} {cs : List (TStamp × Int)} (h : Tr w base tb x ops cs) (h0 : cntC cs = fun _ => 0) : cs = [] := by
  cases cs with
  | nil => rfl
  | cons q r =>
    have h1 := h.nz q (by simp)
    have h2 := congrFun h0 q.1
    unfold cntC getC at h2
    simp at h2
    omega
def noWay : List Value := List.replicate 64 (.slice none 0 0)
/-- New has laid the truth t0, the gossip's block and the views ts. -/
structure N1 (w wr : World) (gb : Nat) (ops : List TOp) (t0 : TrP) (ts : List TrP) (vv : Value) : Prop where
  bel : Below w.heap.size w wr
  blk : Blk wr gb (.slice none 0 0 :: .pointer (some ⟨t0.tb, 0, none⟩) :: vv :: noWay).toArray 83
  own : OwnL encPt wr (gb + 1) 61 1 vv (ts.map (·.tb))
  trs : ∀ t ∈ t0 :: ts, TrI wr t ops (fun _ => 0) 0 ∧ w.heap.size ≤ t.base ∧ t.U ≤ wr.heap.size ∧ ¬ (t.base ≤ gb ∧ gb < t.U) ∧ (∀ b, vv.ownBlock = some b → ¬ (t.base ≤ b ∧ b < t.U))
  dis : (t0 :: ts).Pairwise (fun a b => a.U ≤ b.base)
  g1 : w.heap.size ≤ gb
namespace N1
variable {w wr w' : World} {gb : Nat} {ops : List TOp} {t0 : TrP} {ts : List TrP} {vv : Value}
theorem below (h : N1 w wr gb ops t0 ts vv) (hb : Below wr.heap.size wr w') : N1 w w' gb ops t0 ts vv := by
  have hs := hb.size
  refine ⟨h.bel.trans (hb.mono h.bel.size), h.blk.below hb h.blk.lt, h.own.below hb (Nat.le_refl _), fun t ht => ?_, h.dis, h.g1⟩
  obtain ⟨⟨t1, t2, t3⟩, t4, t5, t6, t7⟩ := h.trs t ht
  exact ⟨⟨t1.chgR (Chg.of_below hb) (fun k hk e => by omega) t2 t3, t2, t3⟩, t4, by omega, t6, t7⟩
/-- One more view. -/
theorem snoc {w2 w7 : World} {g cap : Nat} {t : TrP} (h : N1 w wr gb ops t0 ts vv) (hb : Below wr.heap.size wr w2) (ht : Tr w2 t.base t.tb t.x ops []) (hbase : t.base = wr.heap.size) (htU : t.U = w2.heap.size)
    (hown : OwnL encPt w7 (gb + 1) 61 1 (.slice (some ⟨g, 0, none⟩) (ts.length + 1) cap) (ts.map (·.tb) ++ [t.tb])) (hgr : Grew w2 vv w7 (.slice (some ⟨g, 0, none⟩) (ts.length + 1) cap)) :
    N1 w (w7.setCell ⟨gb, 2, none⟩ (.slice (some ⟨g, 0, none⟩) (ts.length + 1) cap)) gb ops t0 (ts ++ [t]) (.slice (some ⟨g, 0, none⟩) (ts.length + 1) cap) := by
  have h2 := h.below hb
  have hs2 := hb.size
  have hs7 := hgr.grown.size
  have hne : vv.ownBlock ≠ some gb := fun e => by have := (h.own.lt gb e).1; omega
  have hb7 := hgr.blk h2.blk hne
  have hc27 : Chg (fun k => vv.ownBlock = some k) w2 w7 := Chg.of_grown hgr.grown
  have hc78 : Chg (fun k => k = gb) w7 (w7.setCell ⟨gb, 2, none⟩ (.slice (some ⟨g, 0, none⟩) (ts.length + 1) cap)) := (Chg.refl (fun k => k = gb) w7).setCell ⟨gb, 2, none⟩ _ (fun _ => rfl)
  have hs8 := hc78.size
  have hg : ∀ b, (Value.slice (some ⟨g, 0, none⟩) (ts.length + 1) cap).ownBlock = some b → vv.ownBlock = some b ∨ w2.heap.size ≤ b := fun b hb' => by
    rcases hgr.place with e | ⟨g', e, hg'⟩
    · rw [← e]; exact .inl hb'
    · rw [e] at hb'; cases hb'; exact .inr hg'
  have hbl : w.heap.size ≤ wr.heap.size := h.bel.size
  have htb := ht.btb
  have hmb := ht.bmb
  have htl := ht.blk.lt
  have hml := ht.map.lt
  refine ⟨?_, ?_, ?_, fun t' ht' => ?_, ?_, h.g1⟩
  · have hb27 : Below w.heap.size w2 w7 := hc27.below h2.bel.size (fun k hk e => by have := (h.own.lt k e).1; have := h.g1; omega)
    exact (h2.bel.trans hb27).trans (hc78.below (by have := h2.bel.size; omega) (fun k hk e => by have := h.g1; omega))
  · have := hb7.set 2 (.slice (some ⟨g, 0, none⟩) (ts.length + 1) cap)
    rw [List.setIfInBounds_toArray] at this
    exact this
  · rw [List.map_append, List.map_singleton]
    exact hown.chg hc78 (fun b hb' e => by have := (hown.lt b hb').1; omega)
  · have hold : ∀ {u : TrP}, (TrI w2 u ops (fun _ => 0) 0 ∧ w.heap.size ≤ u.base ∧ u.U ≤ w2.heap.size ∧ ¬ (u.base ≤ gb ∧ gb < u.U) ∧ (∀ b, vv.ownBlock = some b → ¬ (u.base ≤ b ∧ b < u.U))) →
        (TrI (w7.setCell ⟨gb, 2, none⟩ (.slice (some ⟨g, 0, none⟩) (ts.length + 1) cap)) u ops (fun _ => 0) 0 ∧ w.heap.size ≤ u.base ∧ u.U ≤ (w7.setCell ⟨gb, 2, none⟩ (.slice (some ⟨g, 0, none⟩) (ts.length + 1) cap)).heap.size ∧ ¬ (u.base ≤ gb ∧ gb < u.U) ∧ (∀ b, (Value.slice (some ⟨g, 0, none⟩) (ts.length + 1) cap).ownBlock = some b → ¬ (u.base ≤ b ∧ b < u.U))) := by
      rintro u ⟨⟨t1, t2, t3⟩, t4, t5, t6, t7⟩
      refine ⟨⟨(t1.chgR hc27 (fun k hk e => t7 k hk e) t2 t3).chgR hc78 (fun k hk e => t6 (by rw [← hk]; exact e)) t2 t3, t2, t3⟩, t4, by omega, t6, fun b hb' e => ?_⟩
      rcases hg b hb' with e2 | e2
      · exact t7 b e2 e
      · omega
    rw [← List.cons_append] at ht'
    rcases List.mem_append.1 ht' with h' | h'
    · exact hold (h2.trs t' h')
    · rw [List.mem_singleton.1 h']
      refine hold ⟨⟨⟨[], ht, rfl, Nat.le_refl _⟩, by omega, by omega⟩, by omega, by omega, fun e => ?_, fun b hb' e => ?_⟩
      · have := h.blk.lt; omega
      · have := (h.own.lt b hb').2; omega
  · rw [← List.cons_append, List.pairwise_append]
    refine ⟨h.dis, List.pairwise_singleton _ _, fun a ha b hb' => ?_⟩
    rw [List.mem_singleton.1 hb', hbase]
    exact (h.trs a ha).2.2.1
theorem tp_at {t0 : TrP} {ts : List TrP} (i : Nat) (hi : i ≤ ts.length) : ∃ t, (t0 :: ts)[i]? = some t ∧ (t0 :: ts).getD i t0 = t ∧ t ∈ t0 :: ts := by
  have h : i < (t0 :: ts).length := by rw [List.length_cons]; omega
  exact ⟨(t0 :: ts)[i], List.getElem?_eq_getElem h, by rw [List.getD_eq_getElem?_getD, List.getElem?_eq_getElem h]; rfl, List.getElem_mem h⟩
/-- All views are there: it is a gossip (of an empty graph yet). -/
theorem gos (h : N1 w wr gb ops t0 ts vv) (h1 : 1 ≤ ts.length) (h8 : ts.length ≤ 8) (hok : (gcheck ops).2 = 0) (M : Nat) :
    ∃ vb vc, vv = .slice (some ⟨vb, 0, none⟩) ts.length vc ∧ Gos wr w.heap.size wr.heap.size (fun _ => False) gb ⟨.slice none 0 0, [], wr.heap.size, wr.heap.size, fun i => (t0 :: ts).getD i t0, vb, vc⟩ ops ⟨ts.length, fun _ _ => 0, fun _ => []⟩ 0 M := by
  rcases h.own.form with ⟨_, e⟩ | ⟨vb, vc, cells, e1, e2, e3, e4, e5, e6, e7, e8⟩
  · rw [List.map_eq_nil_iff] at e; rw [e] at h1; simp at h1
  rw [List.length_map] at e1 e3
  refine ⟨vb, vc, e1, ?_⟩
  subst e1
  have hgl := h.blk.lt
  have hbs := h.bel.size
  refine ⟨h1, h8, ⟨noWay, h.blk, rfl, fun i v hv => ?_, fun i j v u g _ hv _ hg => ?_⟩, ⟨cells, e2, e3, e4, fun j hj => ?_⟩, ⟨wr, [], OpsR.nil _ _, rfl, Nat.le_refl _, Below.refl _ _⟩, fun i hi => ?_, fun i j hij hj => ?_, fun i hi => ?_, fun i hi => ?_, ⟨fun e => absurd e.1 (by show ¬ wr.heap.size ≤ gb; omega), fun e => absurd e.1 (by show ¬ wr.heap.size ≤ vb; omega), by show gb ≠ vb; omega⟩, fun i hi => ?_, fun i hi => ?_, ⟨⟨h.g1, hgl⟩, ⟨by show _ ≤ vb; have := h.g1; omega, e7⟩, hbs, Nat.le_refl _⟩, fun k hk => hk.elim, Nat.le_refl _, hok⟩
  · have : v = .slice none 0 0 := by
      have hm := List.mem_of_getElem? hv
      exact (List.mem_replicate.1 hm).2
    subst this
    exact WayV.nil _ _ _ _
  · have : v = .slice none 0 0 := (List.mem_replicate.1 (List.mem_of_getElem? hv)).2
    subst this
    simp [Value.ownBlock] at hg
  · show cells[j]? = some (.pointer (some ⟨((t0 :: ts).getD (j + 1) t0).tb, 0, none⟩))
    have hj' : j < ts.length := hj
    have h9 := congrArg (fun l => l[j]?) e8
    simp only [List.length_map, Nat.mul_one] at h9
    rw [List.getElem?_take, if_pos hj'] at h9
    have h10 : ((ts.map (·.tb)).flatMap encPt)[j]? = some (.pointer (some ⟨ts[j].tb, 0, none⟩)) := by
      have := flat_at encPt_len (ts.map (·.tb)) j 0 (by simpa using hj') (by omega)
      simp only [Nat.mul_one, Nat.add_zero] at this
      rw [this]
      simp [encPt]
    rw [h10] at h9
    rw [List.getD_cons_succ, List.getD_eq_getElem?_getD, List.getElem?_eq_getElem hj']
    simpa using h9
  · obtain ⟨t, _, ht, hm⟩ := tp_at (t0 := t0) (ts := ts) i hi
    show TrI wr ((t0 :: ts).getD i t0) ops (fun _ => 0) 0
    rw [ht]
    exact (h.trs t hm).1
  · show ((t0 :: ts).getD i t0).U ≤ ((t0 :: ts).getD j t0).base
    have hj' : j < (t0 :: ts).length := by rw [List.length_cons]; exact Nat.lt_succ_of_le hj
    have := List.pairwise_iff_getElem.1 h.dis i j (by omega) hj' hij
    rw [List.getD_eq_getElem?_getD, List.getElem?_eq_getElem (show i < (t0 :: ts).length by omega), List.getD_eq_getElem?_getD, List.getElem?_eq_getElem hj']
    exact this
  · obtain ⟨t, _, ht, hm⟩ := tp_at (t0 := t0) (ts := ts) i hi
    show ¬ (((t0 :: ts).getD i t0).base ≤ gb ∧ _)
    dsimp only
    rw [ht]
    exact (h.trs t hm).2.2.2.1
  · obtain ⟨t, _, ht, hm⟩ := tp_at (t0 := t0) (ts := ts) i hi
    dsimp only
    rw [ht]
    exact (h.trs t hm).2.2.2.2 vb rfl
  · obtain ⟨t, _, ht, hm⟩ := tp_at (t0 := t0) (ts := ts) i hi
    dsimp only
    rw [ht]
    exact (h.trs t hm).2.2.1
  · obtain ⟨t, _, ht, hm⟩ := tp_at (t0 := t0) (ts := ts) i hi
    dsimp only
    rw [ht]
    exact ⟨(h.trs t hm).2.1, (h.trs t hm).2.2.1⟩
end N1
theorem Gos.congrC {w : World} {A U gb N M n : Nat} {X : Nat → Prop} {p : GP} {ops : List TOp} {c c' : Nat → CF} {wy : Nat → List (List TCount)} (h : Gos w A U X gb p ops ⟨n, c, wy⟩ N M) (hc : ∀ i, i ≤ n → c i = c' i) : Gos w A U X gb p ops ⟨n, c', wy⟩ N M :=
  ⟨h.n1, h.n8, h.blk, h.vws, h.gr, fun i hi => by
    have := h.trs i hi
    show TrI w (p.tp i) ops (c' i) N
    rw [← hc i hi]
    exact this, h.dis, h.dg, h.dv, h.dgr, h.dtr, h.inT, h.inG, h.xU, h.uw, h.ok⟩
/-- The graph's clone grows. -/
theorem Gos.setGr {w w3 : World} {A U gb N M : Nat} {p : GP} {ops : List TOp} {m : GM} (h : Gos w A U (fun _ => False) gb p ops m N M) (hgB : gb < p.gB ∧ p.vb < p.gB) {S : Nat → Prop} (hc : Chg S w w3) (hS : ∀ k, S k → p.gB ≤ k) {v : Value} {ps : List POp} {xs : List TOp} (ho : OpsR p.gB w3 v ps) (hps : ps.map (·.x) = xs) :
    Gos (w3.setCell ⟨gb, 0, none⟩ v) A (w3.setCell ⟨gb, 0, none⟩ v).heap.size (fun _ => False) gb ⟨v, xs, p.gB, (w3.setCell ⟨gb, 0, none⟩ v).heap.size, p.tp, p.vb, p.vc⟩ ops m N M ∧ OpsR p.gB (w3.setCell ⟨gb, 0, none⟩ v) v ps := by
  have hc34 : Chg (fun k => k = gb) w3 (w3.setCell ⟨gb, 0, none⟩ v) := (Chg.refl (fun k => k = gb) w3).setCell ⟨gb, 0, none⟩ v (fun _ => rfl)
  have hs := hc.size
  have hs4 := hc34.size
  obtain ⟨ws, b1, b2⟩ := h.blk
  obtain ⟨cs2, v1, v2⟩ := h.vws
  obtain ⟨g1, g2, g3, g4⟩ := h.inG
  have huw := h.uw
  have ho4 := ho.chg hc34 (fun b hb e => by omega)
  have hb3 := b1.chg hc (fun e => by have := hS _ e; omega)
  have hb4 := hb3.set 0 v
  have hcells : (gcells p m.n ws).setIfInBounds 0 v = gcells ⟨v, xs, p.gB, (w3.setCell ⟨gb, 0, none⟩ v).heap.size, p.tp, p.vb, p.vc⟩ m.n ws := by
    unfold gcells
    rw [List.setIfInBounds_toArray]
    rfl
  rw [hcells] at hb4
  refine ⟨⟨h.n1, h.n8, ⟨ws, hb4, b2.len, fun i u hu => ?_, b2.ne⟩, ⟨cs2, (v1.chg hc (fun e => by have := hS _ e; omega)).chg hc34 (fun e => h.dgr.2.2 e.symm), v2⟩, ⟨_, ps, ho4, hps, Nat.le_refl _, Below.refl _ _⟩, fun i hi => ?_, h.dis, h.dg, h.dv, ⟨fun e => absurd e.1 (by show ¬ p.gB ≤ gb; omega), fun e => absurd e.1 (by show ¬ p.gB ≤ p.vb; omega), h.dgr.2.2⟩, h.dtr, fun i hi => ⟨(h.inT i hi).1, by have := (h.inT i hi).2; show (p.tp i).U ≤ _; omega⟩, ⟨⟨g1.1, by omega⟩, ⟨g2.1, by show p.vb < _; omega⟩, g3, Nat.le_refl _⟩, fun k hk => hk.elim, Nat.le_refl _, h.ok⟩, ho4⟩
  · obtain ⟨hv0, ps2, o1, o2, o3⟩ := b2.at' i u hu
    have hu0 : ∀ b, u.ownBlock ≠ some b := fun b hb => hv0 b hb
    refine ⟨hv0, ps2, ?_, o2, fun q hq => ?_⟩
    · rcases o1 with o1 | ⟨g, k, cap, cells, e, _⟩
      · exact .inl o1
      · exact absurd (by rw [e]; rfl) (hu0 g)
    · have h3 := o3 q hq
      rcases o1 with ⟨_, o1⟩ | ⟨g, k, cap, cells, e, _⟩
      · rw [List.map_eq_nil_iff] at o1; rw [o1] at hq; cases hq
      · exact absurd (by rw [e]; rfl) (hu0 g)
  · obtain ⟨u1, u2, u3⟩ := h.trs i hi
    have hd := h.dtr i hi
    exact ⟨(u1.chgR hc (fun k hk e => by have := hS k hk; omega) u2 u3).chgR hc34 (fun k hk e => h.dg i hi (by rw [← hk]; exact e)) u2 u3, u2, u3⟩
end Go.Proofs.YtjmbafcpbagpdaaGreat

/- Gossip: New: the walk. -/
namespace Go.Proofs.YtjmbafcpbagpdaaGreat
open Go.RowKit Go.Shelf Go.Maps
set_option linter.unusedVariables false
set_option linter.unusedSimpArgs false
attribute [local go_sem] eqlP_nil eqlP_some

open Classical in
/-- What New answers. -/
noncomputable def newGE (ops : List TOp) (k : Int) (l : List TCount) : Int :=
  if (gcheck ops).2 ≠ 0 then 13 else if ¬ (1 ≤ k ∧ k ≤ 8) then 1 else if ∃ c ∈ l, c.fN < 0 then 1 else if updF ops (fun _ => 0) l ≠ 0 then 1 else 0
def newGM (k : Nat) (l : List TCount) : GM := ⟨k, fun _ => addF (fun _ => 0) l, fun _ => []⟩
def NewP (w : World) (ops : List TOp) (k : Int) (l : List TCount) (M : Nat) (e : Ending) (w' : World) : Prop :=
  Below w.heap.size w w' ∧ (newGE ops k l ≠ 0 → e = .returned (.tuple #[.pointer none, .int .i64 (newGE ops k l)])) ∧
    (newGE ops k l = 0 → ∃ gb p, e = .returned (.tuple #[.pointer (some ⟨gb, 0, none⟩), .int .i64 0]) ∧ p.gops = ops ∧ Gos w' w.heap.size w'.heap.size (fun _ => False) gb p ops (newGM k.toNat l) l.length M)
theorem NewP.bad {w w' : World} {ops : List TOp} {k : Int} {l : List TCount} {M : Nat} {e : Int} (hE : newGE ops k l = e) (he : e ≠ 0) (hb : Below w.heap.size w w') : NewP w ops k l M (.returned (.tuple #[.pointer none, .int .i64 e])) w' :=
  ⟨hb, fun _ => by rw [hE], fun h => absurd h (by rw [hE]; exact he)⟩

set_option maxRecDepth 100000 in
set_option maxHeartbeats 1000000 in
theorem gnew_no (k : Int) (v : Value) (l : List TCount) (M : Nat) (ops : List TOp) (ao : Option Addr) (cap : Nat) (w : World) (hx : SlA w.heap.size 7 (ROp w.heap.size) w ao cap ops) (hok : (gcheck ops).2 ≠ 0) :
    Calls Tryz.prog 5 #[.agg #[.slice ao ops.length cap], .int .i64 k, v] w (NewP w ops k l M) := by
  have hE : newGE ops k l = 13 := by unfold newGE; rw [if_pos hok]
  have hN := fun W hb => new_no ops cap ao W (imp_ops2 hx hb) hok
  obtain ⟨n, hn⟩ : ∃ n, n = ops.length := ⟨_, rfl⟩
  rw [← hn] at hN ⊢
  replace hN := Lib.hid hN
  replace hE := Lib.hid hE
  clear hn hx hok
  go_enter Tryz.func5, Tryz.ntmps5
  go_wp2_with fail
  refine (hN.out _ ((Below.refl _ _).alloc (Nat.le_refl _) _)).mono ?_
  rintro e w1 ⟨rfl, hb1⟩
  have hbel : Below w.heap.size w w1 := ((Below.refl w.heap.size w).alloc (Nat.le_refl _) (.cells #[.slice ao n cap] 24)).trans (hb1.mono (by simp))
  dsimp only
  go_wp2_with fail
  go_ret2
  exact NewP.bad hE.out (by decide) hbel
open Classical in
set_option maxRecDepth 100000 in
set_option maxHeartbeats 4000000 in
theorem gnew_arg (k : Int) (l : List TCount) (la : Option Addr) (lc M : Nat) (ops : List TOp) (ao : Option Addr) (cap : Nat) (w : World) (hx : SlA w.heap.size 7 (ROp w.heap.size) w ao cap ops) (hok : (gcheck ops).2 = 0) (hzi : ∀ o ∈ ops, o.fIn.length * 8 ≤ 140737488355328)
    (hl : SlA w.heap.size 4 (RCount w.heap.size) w la lc l) (hz : l.length * 32 ≤ 140737488355328) (hbad : ¬ (1 ≤ k ∧ k ≤ 8) ∨ ∃ c ∈ l, c.fN < 0) :
    Calls Tryz.prog 5 #[.agg #[.slice ao ops.length cap], .int .i64 k, .slice la l.length lc] w (NewP w ops k l M) := by
  have hE : newGE ops k l = 1 := by
    unfold newGE
    rw [if_neg (by simpa using hok)]
    by_cases h1 : 1 ≤ k ∧ k ≤ 8
    · rw [if_neg (by simpa using h1), if_pos (hbad.resolve_left (by simpa using h1))]
    · rw [if_pos h1]
  have hN := fun W hb => new_ok ops ao cap W (imp_ops2 hx hb) hok hzi
  have hC := fun W (hb : Below w.heap.size w W) => negc_any l la lc W (hl.imp hb hb.size (fun _ _ _ h => h.imp hb hb.size)) hz
  obtain ⟨n, hn⟩ : ∃ n, n = ops.length := ⟨_, rfl⟩
  rw [← hn] at hN ⊢
  obtain ⟨q, hq⟩ : ∃ q, q = l.length := ⟨_, rfl⟩
  rw [← hq] at hC ⊢
  obtain ⟨bR, hbR⟩ : ∃ bR, bR = decide (∃ c ∈ l, c.fN < 0) := ⟨_, rfl⟩
  rw [← hbR] at hC
  have hcase : k < 1 ∨ (1 ≤ k ∧ 8 < k) ∨ (1 ≤ k ∧ k ≤ 8 ∧ bR = true) := by
    by_cases h1 : k < 1
    · exact .inl h1
    · by_cases h2 : 8 < k
      · exact .inr (.inl ⟨by omega, h2⟩)
      · refine .inr (.inr ⟨by omega, by omega, ?_⟩)
        rw [hbR]
        exact decide_eq_true (hbad.resolve_left (by simp; omega))
  replace hN := Lib.hid hN
  replace hC := Lib.hid hC
  replace hE := Lib.hid hE
  clear hn hq hok hbad hbR
  go_enter Tryz.func5, Tryz.ntmps5
  go_wp2_with fail
  refine (hN.out _ ((Below.refl _ _).alloc (Nat.le_refl _) _)).mono ?_
  rintro e w1 ⟨hb1, tb, x, rfl, hT⟩
  have hbel : Below w.heap.size w w1 := ((Below.refl w.heap.size w).alloc (Nat.le_refl _) (.cells #[.slice ao n cap] 24)).trans (hb1.mono (by simp))
  clear hT hb1 hN
  dsimp only
  rcases hcase with h1 | ⟨h1, h2⟩ | ⟨h1, h2, rfl⟩
  · have d1 : decide (k < 1) = true := by simpa using h1
    clear h1
    go_wp2_with fail
    go_ret2
    exact NewP.bad hE.out (by decide) hbel
  · have d1 : decide (k < 1) = false := by simp; omega
    have d2 : decide (8 < k) = true := by simpa using h2
    clear h1 h2
    go_wp2_with fail
    go_ret2
    exact NewP.bad hE.out (by decide) hbel
  · have d1 : decide (k < 1) = false := by simp; omega
    have d2 : decide (8 < k) = false := by simp; omega
    clear h1 h2
    go_wp2_with fail
    refine (hC.out _ hbel).mono ?_
    rintro e w2 ⟨rfl, hb2⟩
    have hbel2 := hbel.trans (hb2.mono hbel.size)
    dsimp only
    go_wp2_with fail
    go_ret2
    exact NewP.bad hE.out (by decide) hbel2
end Go.Proofs.YtjmbafcpbagpdaaGreat

/- Gossip: New: the walk of the good case. -/
namespace Go.Proofs.YtjmbafcpbagpdaaGreat
open Go.RowKit Go.Shelf Go.Maps
set_option linter.unusedVariables false
set_option linter.unusedSimpArgs false
attribute [local go_sem] eqlP_nil eqlP_some

theorem Gos.growU {w : World} {A U U' gb N M : Nat} {p : GP} {ops : List TOp} {m : GM} (h : Gos w A U (fun _ => False) gb p ops m N M) (h1 : U ≤ U') (h2 : U' ≤ w.heap.size) : Gos w A U' (fun _ => False) gb p ops m N M := by
  obtain ⟨ws, b1, b2⟩ := h.blk
  refine ⟨h.n1, h.n8, ⟨ws, b1, b2.len, fun i u hu => ?_, b2.ne⟩, h.vws, h.gr, h.trs, h.dis, h.dg, h.dv, h.dgr, h.dtr, fun i hi => ⟨(h.inT i hi).1, by have := (h.inT i hi).2; omega⟩, by obtain ⟨g1, g2, g3, g4⟩ := h.inG; exact ⟨⟨g1.1, by omega⟩, ⟨g2.1, by omega⟩, g3, by omega⟩, fun k hk => hk.elim, h2, h.ok⟩
  obtain ⟨hv0, ps2, o1, o2, o3⟩ := b2.at' i u hu
  have hu0 : ∀ b, u.ownBlock ≠ some b := fun b hb => hv0 b hb
  have hps : ps2 = [] ∧ u = .slice none 0 0 := by
    rcases o1 with ⟨e, o1⟩ | ⟨g, k, cap, cells, e, _⟩
    · exact ⟨List.map_eq_nil_iff.1 o1, e⟩
    · exact absurd (by rw [e]; rfl) (hu0 g)
  rw [hps.2, ← o2, hps.1]
  exact WayV.nil _ _ _ _
theorem own_pt {w : World} {base g n cap : Nat} {e : TypeId} {xs : List Nat} (h : OwnL encPt w base e 1 (.slice (some ⟨g, 0, none⟩) n cap) xs) {i : Nat} (hi : i < xs.length) : w.cell? ⟨g, i, none⟩ = some (.pointer (some ⟨xs[i], 0, none⟩)) := by
  rcases h.form with ⟨h1, _⟩ | ⟨g', cap', cells, h1, h2, h3, h4, h5, h6, h7, h8⟩
  · cases h1
  · simp only [Value.slice.injEq, Option.some.injEq, Addr.mk.injEq] at h1
    obtain ⟨⟨rfl, _⟩, rfl, rfl⟩ := h1
    refine h2.cellAt ?_
    have h9 := congrArg (fun l => l[i]?) h8
    simp only [Nat.mul_one] at h9
    rw [List.getElem?_take, if_pos hi] at h9
    have h10 : (xs.flatMap encPt)[i]? = some (.pointer (some ⟨xs[i], 0, none⟩)) := by
      have := flat_at encPt_len xs i 0 hi (by omega)
      simp only [Nat.mul_one, Nat.add_zero] at this
      rw [this]
      simp [encPt]
    rw [h10] at h9
    simpa using h9
/-- The views and the truth are told one after another. -/
def m2 (n i : Nat) (l : List TCount) : GM := ⟨n, fun j => if (1 ≤ j ∧ j ≤ i ∧ j ≤ n) ∨ (j = 0 ∧ n < i) then addF (fun _ => 0) l else fun _ => 0, fun _ => []⟩
theorem m2_next (n i : Nat) (l : List TCount) (hi : i < n + 1) : (⟨(m2 n i l).n, fun j => if j = (if i < n then i + 1 else 0) then addF ((m2 n i l).c (if i < n then i + 1 else 0)) l else (m2 n i l).c j, (m2 n i l).wy⟩ : GM) = m2 n (i + 1) l := by
  unfold m2
  simp only [GM.mk.injEq, true_and, and_true]
  funext j
  by_cases h : i < n
  · rw [if_pos h]
    by_cases hj : j = i + 1
    · subst hj
      rw [if_pos rfl, if_neg (by omega), if_pos (by omega)]
    · rw [if_neg hj]
      by_cases h2 : (1 ≤ j ∧ j ≤ i ∧ j ≤ n) ∨ (j = 0 ∧ n < i)
      · rw [if_pos h2, if_pos (by omega)]
      · rw [if_neg h2, if_neg (by omega)]
  · rw [if_neg h]
    by_cases hj : j = 0
    · subst hj
      rw [if_pos rfl, if_neg (by omega), if_pos (by omega)]
    · rw [if_neg hj]
      by_cases h2 : (1 ≤ j ∧ j ≤ i ∧ j ≤ n) ∨ (j = 0 ∧ n < i)
      · rw [if_pos h2, if_pos (by omega)]
      · rw [if_neg h2, if_neg (by omega)]

set_option maxRecDepth 100000 in
set_option maxHeartbeats 8000000 in
open Classical in
theorem gnew_ok (k : Int) (l : List TCount) (la : Option Addr) (lc M : Nat) (ops : List TOp) (ao : Option Addr) (cap : Nat) (w : World) (hx : SlA w.heap.size 7 (ROp w.heap.size) w ao cap ops) (hok : (gcheck ops).2 = 0) (hzi : ∀ o ∈ ops, o.fIn.length * 8 ≤ 140737488355328)
    (hl : SlA w.heap.size 4 (RCount w.heap.size) w la lc l) (hz : l.length * 32 ≤ 140737488355328) (hk : 1 ≤ k ∧ k ≤ 8) (hneg : ¬ ∃ c ∈ l, c.fN < 0) :
    Calls Tryz.prog 5 #[.agg #[.slice ao ops.length cap], .int .i64 k, .slice la l.length lc] w (NewP w ops k l M) := by
  have hE : newGE ops k l = if updF ops (fun _ => 0) l ≠ 0 then 1 else 0 := by
    unfold newGE
    rw [if_neg (by simpa using hok), if_neg (by simpa using hk), if_neg hneg]
  obtain ⟨jP, hiP, hP0, hP1, hP2⟩ := info_parts infoP
  obtain ⟨jO, hiO, hO0, hO1, hO2⟩ := info_parts infoO
  have hN := fun W hb => new_ok ops ao cap W (imp_ops2 hx hb) hok hzi
  have hC := fun W (hb : Below w.heap.size w W) => negc_any l la lc W (hl.imp hb hb.size (fun _ _ _ h => h.imp hb hb.size)) hz
  have hmost := (okG_of_check hok).most
  obtain ⟨n, hn⟩ : ∃ n, n = ops.length := ⟨_, rfl⟩
  rw [← hn] at hN hmost ⊢
  obtain ⟨q, hq⟩ : ∃ q, q = l.length := ⟨_, rfl⟩
  rw [← hq] at hC hz ⊢
  rw [decide_eq_false hneg] at hC
  obtain ⟨ue, hue⟩ : ∃ ue, ue = updF ops (fun _ => 0) l := ⟨_, rfl⟩
  rw [← hue] at hE
  obtain ⟨hk1, hk8⟩ := hk
  have d1 : decide (k < 1) = false := by simp; omega
  have d2 : decide (8 < k) = false := by simp; omega
  replace hN := Lib.hid hN
  replace hC := Lib.hid hC
  replace hE := Lib.hid hE
  replace hn := Lib.hid hn
  replace hq := Lib.hid hq
  replace hue := Lib.hid hue
  replace hok := Lib.hid hok
  replace hzi := Lib.hid hzi
  clear hneg
  go_enter Tryz.func5, Tryz.ntmps5
  go_wp2_with fail
  refine (hN.out _ ((Below.refl _ _).alloc (Nat.le_refl _) _)).mono ?_
  rintro e w1 ⟨hb1, tb, x, rfl, hT⟩
  have hA1 : Blk w1 w.heap.size #[.slice ao n cap] 24 := (Blk.new w _ _).below hb1 (by simp)
  have hbel : Below w.heap.size w w1 := ((Below.refl w.heap.size w).alloc (Nat.le_refl _) (.cells #[.slice ao n cap] 24)).trans (hb1.mono (by simp))
  rw [World.size_alloc] at hT
  have hw1 : w.heap.size < w1.heap.size := hA1.lt
  clear hb1
  dsimp only
  go_wp2_with fail
  refine (hC.out _ hbel).mono ?_
  rintro e w2 ⟨rfl, hb2⟩
  have hbel2 := hbel.trans (hb2.mono hbel.size)
  have hA2 := hA1.below hb2 hA1.lt
  have hT2 := hT.below hb2
  have hTl := hT.blk.lt
  have hTm := hT.map.lt
  have hs2 := hb2.size
  clear hA1 hT hbel hb2 hC
  dsimp only
  go_upto_region 7 with fail
  refine Code.wp_world ?_
  intro w3 hw3
  have hb3 : Below w2.heap.size w2 w3 := by rw [hw3]; exact below_allocJ _ _
  have hG3 : Blk w3 w2.heap.size (.slice none 0 0 :: .pointer (some ⟨tb, 0, none⟩) :: .slice none 0 0 :: noWay).toArray 83 := by rw [hw3]; exact Blk.new _ _ _
  have hA3 := hA2.below hb3 hA2.lt
  obtain ⟨gb, hgb⟩ : ∃ gb, gb = w2.heap.size := ⟨_, rfl⟩
  have hs3 := hb3.size
  have hI3 : N1 w w3 gb ops ⟨w.heap.size + 1, tb, w1.heap.size, x⟩ [] (.slice none 0 0) := by
    refine ⟨hbel2.trans (hb3.mono hbel2.size), by rw [hgb]; exact hG3, OwnL.nil _ _ _ _ _, fun t ht => ?_, List.pairwise_singleton _ _, by omega⟩
    rw [List.mem_singleton.1 ht]
    exact ⟨⟨⟨[], hT2.below hb3, rfl, Nat.le_refl _⟩, hTl, hTm⟩, by show _ ≤ w.heap.size + 1; omega, by show w1.heap.size ≤ _; omega, fun e => by have h2 : gb < w1.heap.size := e.2; omega, fun b hb => by simp [Value.ownBlock] at hb⟩
  have hgw : w.heap.size < gb := by omega
  rw [← hgb]
  replace hgb := Lib.hid hgb
  clear hw3 hG3 hT2 hA2 hb3 hTl hTm hbel2 hs2 hs3
  obtain ⟨t0, ht0⟩ : ∃ t0 : TrP, t0 = ⟨w.heap.size + 1, tb, w1.heap.size, x⟩ := ⟨_, rfl⟩
  have htb0 : t0.tb = tb := by rw [ht0]
  rw [← ht0] at hI3
  replace htb0 := Lib.hid htb0
  clear ht0 hw1
  go_wp2_with fail
  go_loopw [40] (fun x40 wr => ∃ (i : Nat) (ts : List TrP) (vv : Value), Hid (ts.length = i) ∧ (i : Int) ≤ k ∧ x40 = .int .i64 i ∧ N1 w wr gb ops t0 ts vv ∧ Blk wr w.heap.size #[.slice ao n cap] 24) (fun x40 _ => (k - intOf x40).toNat)
  case atStart => exact ⟨0, [], _, Lib.hid rfl, by omega, rfl, hI3, hA3⟩
  case round =>
    clear hI3 hA3
    obtain ⟨i, ts, vv, hlen, hik, rfl, hI, hA⟩ := hrel
    by_cases hi : (i : Int) < k
    · have di : decide ((i : Int) < k) = true := by simpa using hi
      have ca := hA.cellAt (i := 0) (v := .slice ao n cap) rfl
      go_wp2_with fail
      refine (hN.out wr hI.bel).mono ?_
      rintro e w4 ⟨hb4, tb4, x4, rfl, hT4⟩
      have hI4 := hI.below hb4
      have hA4 := hA.below hb4 hA.lt
      have hml : (ts.map (·.tb)).length = i := by rw [List.length_map]; exact hlen.out
      obtain ⟨av, cv, hvv, _, _, _⟩ := hI4.own.slice
      rw [hml] at hvv
      subst hvv
      have e6 : w4.cell? ⟨gb, 2, none⟩ = some (.slice av i cv) := hI4.blk.cellAt rfl
      have hgs : gb + 1 ≤ w4.heap.size := hI4.blk.lt
      have hpe : (#[.pointer (some ⟨tb4, 0, none⟩)] : Array Value) = (encPt tb4).toArray := rfl
      replace hpe := Lib.hid hpe
      replace hml := Lib.hid hml
      clear ca
      dsimp only
      go_wp2_with (at_builtin; refine Shut.out ?kap)
      unfold Shut
      rw [hpe.out]
      refine wpList_app1g rfl _ _ 78 rfl Tryz.underlying78 hiP hP0 hP1 hP2 rfl (by decide) (enc := encPt) tb4 rfl hI4.own rfl (encPt_len _) (encPt_one _) (by rw [hml.out]; omega) (by rw [hml.out]; unfold maxLen; omega) hgs (fun g cap7 w7 hown7 hgr7 => ?_)
      rw [hml.out] at hown7 hgr7 ⊢
      have hI8 := hI.snoc (w2 := w4) (w7 := w7) (g := g) (cap := cap7) (t := ⟨wr.heap.size, tb4, w4.heap.size, x4⟩) hb4 hT4 rfl rfl (by rw [hlen.out]; exact hown7) (by rw [hlen.out]; exact hgr7)
      rw [hlen.out] at hI8
      have hne7 : (Value.slice av i cv).ownBlock ≠ some gb := fun e => by have := (hI4.own.lt gb e).1; omega
      have hB7 := hgr7.blk hI4.blk hne7
      have e7 : w7.cell? ⟨gb, 2, none⟩ = some (.slice av i cv) := hB7.cellAt rfl
      have f7 := hB7.frozen 2
      have hA7 := hgr7.blk hA4 (fun e => by have := (hI4.own.lt _ e).1; omega)
      have hA8 := hA7.set_other (p := ⟨gb, 2, none⟩) (by show w.heap.size ≠ gb; omega) (.slice (some ⟨g, 0, none⟩) (i + 1) cap7)
      have hl8 : Hid ((ts ++ [(⟨wr.heap.size, tb4, w4.heap.size, x4⟩ : TrP)]).length = i + 1) := Lib.hid (by rw [List.length_append, List.length_singleton, hlen.out])
      clear hown7 hgr7 hI4 hA4 hT4 hb4 hI hA hne7 hB7 hA7 e6
      go_wp2_with fail
      go_roundw
      case rel => exact ⟨i + 1, _, _, hl8, by omega, by go_num, hI8, hA8⟩
      case measure => simp [intOf]; omega
    · have di : decide ((i : Int) < k) = false := by simpa using hi
      have hke : k = (i : Int) := by omega
      have hi1 : 1 ≤ i := by omega
      have hi8 : i ≤ 8 := by omega
      replace hke := Lib.hid hke
      clear hi hik
      obtain ⟨vb, vc, hvv, hG0⟩ := hI.gos (by rw [hlen.out]; exact hi1) (by rw [hlen.out]; exact hi8) hok.out M
      rw [hlen.out] at hvv hG0
      have hclo := cloneP (ts.map (·.tb)) (gb + 1) vv wr hI.own (by rw [List.length_map, hlen.out]; omega)
      subst hvv
      have e6 : wr.cell? ⟨gb, 2, none⟩ = some (.slice (some ⟨vb, 0, none⟩) i vc) := hI.blk.cellAt rfl
      have hbr := hI.bel
      have hbrs := hbr.size
      have hvbs : vb < wr.heap.size := (hI.own.lt vb rfl).2
      have hgbs : gb < wr.heap.size := hI.blk.lt
      obtain ⟨pp, hpp⟩ : ∃ pp : GP, pp = ⟨.slice none 0 0, [], wr.heap.size, wr.heap.size, fun i => (t0 :: ts).getD i t0, vb, vc⟩ := ⟨_, rfl⟩
      rw [← hpp] at hG0
      have hpt : ∀ j (hj : j < (ts.map (·.tb) ++ [tb]).length), (ts.map (·.tb) ++ [tb])[j] = (pp.tp (if j < i then j + 1 else 0)).tb := fun j hj => by
        rw [hpp]
        show _ = ((t0 :: ts).getD (if j < i then j + 1 else 0) t0).tb
        have hL := hlen.out
        rw [List.length_append, List.length_map, List.length_singleton] at hj
        by_cases h : j < i
        · rw [if_pos h, List.getD_cons_succ, List.getElem_append_left (by rw [List.length_map]; omega), List.getD_eq_getElem?_getD, List.getElem?_eq_getElem (show j < ts.length by omega), List.getElem_map]
          rfl
        · rw [if_neg h, List.getElem_append_right (by rw [List.length_map]; omega)]
          simp only [List.length_map, List.getElem_singleton, List.getD_cons_zero]
          exact htb0.out.symm
      have hpf : pp.gB = wr.heap.size ∧ pp.gU = wr.heap.size ∧ pp.gops = [] ∧ pp.gv = .slice none 0 0 ∧ pp.vb = vb := by rw [hpp]; exact ⟨rfl, rfl, rfl, rfl, rfl⟩
      have hrl : (ts.map (·.tb) ++ [tb]).length = i + 1 := by rw [List.length_append, List.length_map, List.length_singleton, hlen.out]
      have hml : (ts.map (·.tb)).length = i := by rw [List.length_map]; exact hlen.out
      replace hclo := Lib.hid hclo
      replace hpt := Lib.hid hpt
      replace hpf := Lib.hid hpf
      replace hG0 := Lib.hid hG0
      replace hrl := Lib.hid hrl
      replace hml := Lib.hid hml
      clear hI hpp hlen
      go_wp2_with fail
      refine hclo.out.mono ?_
      rintro e w4 ⟨hb4, v4, rfl, hown4⟩
      have hpe : (#[.pointer (some ⟨tb, 0, none⟩)] : Array Value) = (encPt tb).toArray := rfl
      replace hpe := Lib.hid hpe
      obtain ⟨av4, cv4, hv4, _, _, _⟩ := hown4.slice
      rw [hml.out] at hv4
      subst hv4
      dsimp only
      go_wp2_with (at_builtin; refine Shut.out ?kaq)
      unfold Shut
      rw [hpe.out]
      refine wpList_app1g rfl _ _ 78 rfl Tryz.underlying78 hiP hP0 hP1 hP2 rfl (by decide) (enc := encPt) tb rfl hown4 rfl (encPt_len _) (encPt_one _) (by rw [hml.out]; omega) (by rw [hml.out]; unfold maxLen; omega) hb4.size (fun g cap7 w7 hown7 hgr7 => ?_)
      rw [hml.out] at hown7 hgr7 ⊢
      have hb7 : Below wr.heap.size wr w7 := hb4.trans (hgr7.below hb4.size (fun g' hg' => (hown4.lt g' hg').1))
      have hA7 := hA.below hb7 hA.lt
      have hG7 := hG0.out.below hb7
      have hbel7 := hbr.trans (hb7.mono hbrs)
      obtain ⟨UG, hUG⟩ : ∃ UG, UG = wr.heap.size := ⟨_, rfl⟩
      rw [← hUG] at hG7 hown7 hbrs hvbs hgbs
      have hpf2 := hpf.out
      rw [← hUG] at hpf2
      have hUGs : UG ≤ w7.heap.size := by rw [hUG]; exact hb7.size
      replace hpf2 := Lib.hid hpf2
      obtain ⟨L, hL⟩ : ∃ L, L = ts.map (·.tb) ++ [tb] := ⟨_, rfl⟩
      rw [← hL] at hown7
      have hptL : ∀ j (hj : j < L.length), L[j] = (pp.tp (if j < i then j + 1 else 0)).tb := by rw [hL]; exact hpt.out
      have hLl : L.length = i + 1 := by rw [hL]; exact hrl.out
      replace hptL := Lib.hid hptL
      replace hLl := Lib.hid hLl
      have hGs : Hid (Gos w7 w.heap.size UG (fun _ => False) gb pp ops (m2 i 0 l) q M) := Lib.hid ((hG7.mono (Nat.zero_le q)).congrC (fun j hj => by
        show _ = if _ then _ else _
        rw [if_neg (by omega)]))
      clear hG7 hG0 hclo hpt hpf hrl hml hb7 hgr7 hown4 hb4 hL hUG hA hbr e6
      go_wp2_with fail
      go_loopw [67] (fun x67 wr => ∃ j : Nat, j ≤ i + 1 ∧ x67 = .int .i64 j ∧ Hid (Gos wr w.heap.size UG (fun _ => False) gb pp ops (m2 i j l) q M) ∧ Below w.heap.size w wr ∧ OwnL encPt wr UG 61 1 (.slice (some ⟨g, 0, none⟩) (i + 1) cap7) L ∧ Blk wr w.heap.size #[.slice ao n cap] 24 ∧ UG ≤ wr.heap.size ∧ Hid (0 < j → ue = 0)) (fun x67 _ => i + 1 - (intOf x67).toNat)
      case atStart => exact ⟨0, Nat.zero_le _, rfl, hGs, hbel7, hown7, hA7, hUGs, Lib.hid (fun h => by omega)⟩
      case round =>
        clear hGs hbel7 hown7 hA7 hUGs
        obtain ⟨j, hj, rfl, hGj, hbj, hownj, hAj, hUj, hju⟩ := hrel
        by_cases hji : j < i + 1
        · have dj : decide ((j : Int) < ((i + 1 : Nat) : Int)) = true := by simp; omega
          have dj2 : decide ((j : Int) < (i : Int) + 1) = true := by simp; omega
          have cj := own_pt hownj (i := j) (by rw [hLl.out]; exact hji)
          rw [hptL.out j (by rw [hLl.out]; exact hji)] at cj
          obtain ⟨ix, hix⟩ : ∃ ix, ix = if j < i then j + 1 else 0 := ⟨_, rfl⟩
          have hixn : ix ≤ i := by rw [hix]; split <;> omega
          rw [← hix] at cj
          obtain ⟨⟨cs, hTj, hcs, _⟩, ht2, ht3⟩ := hGj.out.trs ix hixn
          have hc0 : cntC cs = fun _ => 0 := by
            rw [hcs]
            show (if _ then _ else _) = _
            rw [if_neg]
            rw [hix]
            split <;> omega
          have hcn := cs_nil hTj hc0
          subst hcn
          have hup := update_any l la lc wr hTj (hl.imp hbj hbj.size (fun _ _ _ h => h.imp hbj hbj.size)) (by rw [← hq.out]; exact hz) (by rw [← hq.out, List.length_nil]; omega)
          rw [updF_cs, ← hq.out, show cntC ([] : List (TStamp × Int)) = fun _ => 0 from rfl, ← hue.out] at hup
          obtain ⟨tj, htj⟩ : ∃ tj, tj = (pp.tp ix).tb := ⟨_, rfl⟩
          rw [← htj] at cj hup
          replace htj := Lib.hid htj
          replace hup := Lib.hid hup
          replace hix := Lib.hid hix
          replace hc0 := Lib.hid hc0
          replace hcs := Lib.hid hcs
          have hmne := hTj.map.ne_blk hAj
          clear hTj
          go_wp2_with fail
          refine hup.out.mono ?_
          rintro e w5 ⟨rfl, hc5, hbad5, hgood5⟩
          dsimp only
          by_cases hu0 : ue = 0
          · have f1 : (ue == 0) = true := by simpa using hu0
            have f2 : (ue != 0) = false := by simp [hu0]
            obtain ⟨cs', hT5, hcnt5, hlen5⟩ := hgood5 hu0
            have hmbA : w.heap.size ≤ (pp.tp ix).x.mb ∧ (pp.tp ix).x.mb < UG := by
              have h1 := hGj.out.inT ix hixn
              have h2 := hT5.bmb
              omega
            have hG5 := hGj.out.upd (i := ix) hixn hc5 (cs := []) (cs' := cs') (l := l) (N' := q) (by rw [hc0.out, ← hcs.out, hc0.out]) (Nat.le_refl _) (by rw [← htj.out]; exact hT5) hcnt5 (by simpa using hlen5)
            rw [show (⟨(m2 i j l).n, fun j' => if j' = ix then addF ((m2 i j l).c ix) l else (m2 i j l).c j', (m2 i j l).wy⟩ : GM) = m2 i (j + 1) l by rw [hix.out]; exact m2_next i j l hji] at hG5
            have hbj5 : Below w.heap.size w w5 := hbj.trans (hc5.below hbj.size (fun k' hk' e => by omega))
            have hown5 := hownj.chg hc5 (fun b hb e => by have := (hownj.lt b hb).1; omega)
            have hA5 := hAj.chg hc5 (fun e => hmne e.symm)
            have hU5 : UG ≤ w5.heap.size := Nat.le_trans hUj hc5.size
            replace hG5 := Lib.hid hG5
            clear hup hbad5 hgood5 hT5 hcnt5 hlen5 hc5 hGj hbj hownj hAj hmbA cj
            go_wp2_with fail
            go_roundw
            case rel => exact ⟨j + 1, by omega, by go_num, hG5, hbj5, hown5, hA5, hU5, Lib.hid (fun _ => hu0)⟩
            case measure => simp [intOf]; omega
          · have f1 : (ue == 0) = false := by simpa using hu0
            have f2 : (ue != 0) = true := by simp [hu0]
            have hE1 := hE.out
            rw [if_pos hu0] at hE1
            have hb5 := hbj.trans ((hbad5 hu0).mono hbj.size)
            replace hE1 := Lib.hid hE1
            clear hup hbad5 hgood5 hc5 hGj hbj hownj hAj cj hu0
            go_wp2_with fail
            go_ret2
            exact NewP.bad hE1.out (by decide) hb5
        · have dj : decide ((j : Int) < ((i + 1 : Nat) : Int)) = false := by simp; omega
          have dj2 : decide ((j : Int) < (i : Int) + 1) = false := by simp; omega
          have hje : j = i + 1 := by omega
          have hu0 : ue = 0 := hju.out (by omega)
          have hG8 : Gos wr w.heap.size UG (fun _ => False) gb pp ops (newGM i l) q M := by
            have h := hGj.out
            rw [hje] at h
            exact h.congrC (fun j hj => by
              show (if _ then _ else _) = _
              rw [if_pos (by omega)])
          have hE1 := hE.out
          rw [if_neg (by simpa using hu0)] at hE1
          have ca := hAj.cellAt (i := 0) (v := .slice ao n cap) rfl
          have hGs8 : Hid (Gos wr w.heap.size UG (fun _ => False) gb pp ops (newGM i l) q M ∧ pp.gB = UG ∧ pp.gops = ops.take 0 ∧ pp.gv = .slice none 0 0 ∧ pp.vb = vb) := Lib.hid ⟨hG8, hpf2.out.1, hpf2.out.2.2.1, hpf2.out.2.2.2.1, hpf2.out.2.2.2.2⟩
          replace hE1 := Lib.hid hE1
          clear hG8 hGj hju hownj hje hu0 hAj hE
          go_wp2_with fail
          go_loopw [80] (fun x80 wr => ∃ (j : Nat) (ps : List POp) (v : Value) (U3 : Nat) (p3 : GP), j ≤ n ∧ x80 = .int .i64 j ∧ Hid (Gos wr w.heap.size U3 (fun _ => False) gb p3 ops (newGM i l) q M ∧ p3.gB = UG ∧ p3.gops = ops.take j ∧ p3.gv = v ∧ p3.vb = vb) ∧ OpsR UG wr v ps ∧ Hid (ps.map (·.x) = ops.take j) ∧ Below w.heap.size w wr ∧ UG ≤ wr.heap.size) (fun x80 _ => n - (intOf x80).toNat)
          case atStart => exact ⟨0, [], _, UG, pp, Nat.zero_le _, rfl, hGs8, OpsR.nil _ _, Lib.hid rfl, hbj, hUj⟩
          case round =>
            clear hGs8 hbj hUj ca
            obtain ⟨j, ps, v, U3, p3, hjn, rfl, hG, hops, hpm, hbw, hUw⟩ := hrel
            by_cases hin : j < n
            · have hdi : decide ((j : Int) < (n : Int)) = true := by simp; omega
              have hxi : j < ops.length := by rw [← hn.out]; exact hin
              obtain ⟨b, off, rfl, hb, _⟩ := hx.addr (by omega)
              obtain ⟨o, hxo⟩ : ∃ o, ops[j] = o := ⟨_, rfl⟩
              obtain ⟨ao1, cap1, e0, e1, e2, e3, e4, e5, e6, z0, hii, z2, z3, z4, z5, z6⟩ := ROp.at (imp_ops hx hbw) hxi hxo
              have hti : ops.take (j + 1) = ops.take j ++ [o] := by rw [List.take_add_one, List.getElem?_eq_getElem hxi, hxo]; rfl
              have hzo := hzi.out o (by rw [← hxo]; exact List.getElem_mem hxi)
              have hpsl : ps.length = j := by have := congrArg List.length hpm.out; rw [List.length_map, List.length_take] at this; omega
              obtain ⟨m, hm⟩ : ∃ m, m = o.fIn.length := ⟨_, rfl⟩
              rw [← hm] at e1
              have hbwr : b < wr.heap.size := Nat.lt_of_lt_of_le hb hbw.size
              have cg := hG.out.1.blk
              replace hxo := Lib.hid hxo
              replace hm := Lib.hid hm
              replace hti := Lib.hid hti
              replace hpsl := Lib.hid hpsl
              replace hzo := Lib.hid hzo
              clear cg
              go_upto_region 22 with fail
              refine Code.wp_world ?_
              intro w2 hw2
              obtain ⟨kb, hkb⟩ : ∃ c, c = wr.heap.size := ⟨_, rfl⟩
              have hK2 : Blk w2 kb #[.int .i64 o.fKind, .slice ao1 m cap1, .int .i64 o.fArg, .int .u32 o.fNum, .int .i64 o.fRounds, .int .i64 o.fTest, .int .u32 o.fLim] 73 := by rw [hw2, hkb]; exact Blk.new _ _ _
              have hb2 : Below wr.heap.size wr w2 := by rw [hw2]; exact below_allocJ _ _
              rw [← hkb]
              have hkb2' : kb < w2.heap.size := hK2.lt
              clear hw2 e0 e1 e2 e3 e4 e5 e6
              have k1 := hK2.cellAt (i := 1) (v := .slice ao1 m cap1) rfl
              replace hkb := Lib.hid hkb
              have hbw2 := hbw.trans (hb2.mono hbw.size)
              have hclone := cloneI o.fIn ao1 cap1 w.heap.size w2 hbw2.size (in_imp hii (hb2.mono hbw.size)) hzo.out
              rw [← hm.out] at hclone
              go_wp2_with fail
              refine hclone.mono ?_
              rintro e w3 ⟨hb23, v3, rfl, hown3⟩
              have hK3 := hK2.below hb23 hK2.lt
              have hwf : ∀ y ∈ o.fIn, (Lit.int IntKind.i64 y).wf = true := fun y hy => by
                obtain ⟨j, hj, rfl⟩ := List.mem_iff_getElem.1 hy
                obtain ⟨b1, o1, rfl, _, _⟩ := hii.addr (by omega)
                exact (in_at hii hj rfl).2
              obtain ⟨ao3, cap3, hv3, hsI⟩ := SlP.of_ints (D := fun k => w2.heap.size ≤ k ∧ k < w3.heap.size) hown3 hwf (fun g hg => hown3.lt g hg)
              subst hv3
              rw [← hm.out]
              clear hown3 k1 hii hK2 hclone
              have f1 := hK3.frozen 1
              have k1 := hK3.cellAt (i := 1) (v := .slice ao1 m cap1) rfl
              dsimp only
              go_upto_region 23 with fail
              refine Code.wp_world ?_
              intro w4 hw4
              have hkbe := hkb.out
              have hs2 := hb2.size
              have hs3 := hb23.size
              have hkb2 : kb < w2.heap.size := hkb2'
              have hK4 : Blk w4 kb #[.int .i64 o.fKind, .slice ao3 m cap3, .int .i64 o.fArg, .int .u32 o.fNum, .int .i64 o.fRounds, .int .i64 o.fTest, .int .u32 o.fLim] 73 := by rw [hw4]; exact hK3.set 1 _
              have hbr : Below wr.heap.size wr w4 := by rw [hw4]; exact (hb2.trans (hb23.mono hb2.size)).setCell (by simp; omega) _
              have hc34 : Chg (fun k => k = kb) w3 w4 := by rw [hw4]; exact (Chg.refl (fun k => k = kb) w3).setCell ⟨kb, 1, none⟩ _ (fun _ => rfl)
              have hs4 := hc34.size
              obtain ⟨p, hp⟩ : ∃ p : POp, p = ⟨o, ao3, cap3⟩ := ⟨_, rfl⟩
              have hpx : p.x = o := by rw [hp]
              have hpI : InP (fun k => wr.heap.size ≤ k ∧ k < w4.heap.size) w4 p := by
                rw [hp]
                exact ⟨⟨z0, hwf, z2, z3, z4, z5, z6⟩, hsI.imp (fun k hk => ⟨⟨by omega, by omega⟩, hc34.block k hk.2 (by omega)⟩) (fun _ _ _ h => h)⟩
              clear hw4 hK3 hc34 hsI k1 f1 hwf
              have hG4 := hG.out.1.below hbr
              have hopsi := hops.below hbr (Nat.le_refl _)
              obtain ⟨k0', k1', k2', k3', k4', k5', k6'⟩ := blk7 hK4
              obtain ⟨ws4, hBg4, _⟩ := hG4.blk
              have hE6 : w4.cell? ⟨gb, 0, none⟩ = some v := by rw [← hG.out.2.2.2.1]; exact hBg4.cellAt rfl
              obtain ⟨aov, capv, hvv2, _, _, _⟩ := hops.1.slice
              rw [hpsl.out] at hvv2
              subst hvv2
              have hebs : UG ≤ w4.heap.size := Nat.le_trans hUw hbr.size
              have hpe : (#[.int .i64 o.fKind, .slice ao3 m cap3, .int .i64 o.fArg, .int .u32 o.fNum, .int .i64 o.fRounds, .int .i64 o.fTest, .int .u32 o.fLim] : Array Value) = (encO p).toArray := by rw [hp, hm.out]; rfl
              replace hpe := Lib.hid hpe
              replace hp := Lib.hid hp
              replace hpx := Lib.hid hpx
              replace hkbe := Lib.hid hkbe
              clear hkb
              refine wp_region_tree (fun wx => wx.cell? ⟨gb, 0, none⟩ = some (.slice aov j capv) ∧ wx.cell? ⟨kb, 0, none⟩ = some (.int .i64 o.fKind) ∧ wx.cell? ⟨kb, 1, none⟩ = some (.slice ao3 m cap3) ∧ wx.cell? ⟨kb, 2, none⟩ = some (.int .i64 o.fArg) ∧ wx.cell? ⟨kb, 3, none⟩ = some (.int .u32 o.fNum) ∧ wx.cell? ⟨kb, 4, none⟩ = some (.int .i64 o.fRounds) ∧ wx.cell? ⟨kb, 5, none⟩ = some (.int .i64 o.fTest) ∧ wx.cell? ⟨kb, 6, none⟩ = some (.int .u32 o.fLim)) 9 13 (by kernel_rfl) rfl (by kernel_rfl) (fun d _ _ _ _ h => by cases d <;> exact h) (⟨hE6, k0', k1', k2', k3', k4', k5', k6'⟩) (fun opz T hOps hT hTok hHeld => ?_)
              have hops5 := hopsi.chg ((Chg.refl (fun _ => False) w4).drew) (fun _ _ h => h)
              have hG5 := hG4.below ((Below.refl w4.heap.size w4).drew)
              have hb45 : Below w4.heap.size w4 w4.drew := (Below.refl w4.heap.size w4).drew
              have hpI5 : InP (fun k => wr.heap.size ≤ k ∧ k < w4.drew.heap.size) w4.drew p := hpI
              have hK5 := hK4.drew
              have hBg5 := hBg4.drew
              have hgl5 : gb < w4.drew.heap.size := hBg4.lt
              have hE5 : w4.drew.cell? ⟨gb, 0, none⟩ = some (.slice aov j capv) := hE6
              have hebs5 : UG ≤ w4.drew.heap.size := hebs
              generalize w4.drew = w5 at hops5 hG5 hb45 hpI5 hK5 hBg5 hgl5 hE5 hebs5 hHeld ⊢
              (refine wpTree_q 0 hTok hOps (by kernel_rfl) rfl rfl ⟨?_, ?_, ?_⟩; rotate_left; (focus (intro wx hSx; (try dsimp only at hSx); go_simp; (try with_reducible rfl))); (simp only [Act.put, List.setIfInBounds_toArray, List.set_cons_zero, List.set_cons_succ]))
              (refine wpTree_q 1 hTok hOps (by kernel_rfl) rfl rfl ⟨?_, ?_, ?_⟩; rotate_left; (focus (intro wx hSx; (try dsimp only at hSx); go_simp; (try with_reducible rfl))); (simp only [Act.put, List.setIfInBounds_toArray, List.set_cons_zero, List.set_cons_succ]))
              (refine wpTree_q 2 hTok hOps (by kernel_rfl) rfl rfl ⟨?_, ?_, ?_⟩; rotate_left; (focus (intro wx hSx; (try dsimp only at hSx); go_simp; (try with_reducible rfl))); (simp only [Act.put, List.setIfInBounds_toArray, List.set_cons_zero, List.set_cons_succ]))
              (refine wpTree_q 3 hTok hOps (by kernel_rfl) rfl rfl ⟨?_, ?_, ?_⟩; rotate_left; (focus (intro wx hSx; (try dsimp only at hSx); go_simp; (try with_reducible rfl))); (simp only [Act.put, List.setIfInBounds_toArray, List.set_cons_zero, List.set_cons_succ]))
              (refine wpTree_q 4 hTok hOps (by kernel_rfl) rfl rfl ⟨?_, ?_, ?_⟩; rotate_left; (focus (intro wx hSx; (try dsimp only at hSx); go_simp; (try with_reducible rfl))); (simp only [Act.put, List.setIfInBounds_toArray, List.set_cons_zero, List.set_cons_succ]))
              (refine wpTree_q 5 hTok hOps (by kernel_rfl) rfl rfl ⟨?_, ?_, ?_⟩; rotate_left; (focus (intro wx hSx; (try dsimp only at hSx); go_simp; (try with_reducible rfl))); (simp only [Act.put, List.setIfInBounds_toArray, List.set_cons_zero, List.set_cons_succ]))
              (refine wpTree_q 6 hTok hOps (by kernel_rfl) rfl rfl ⟨?_, ?_, ?_⟩; rotate_left; (focus (intro wx hSx; (try dsimp only at hSx); go_simp; (try with_reducible rfl))); (simp only [Act.put, List.setIfInBounds_toArray, List.set_cons_zero, List.set_cons_succ]))
              refine wpTree_1 7 hOps (by kernel_rfl) (by decide) rfl (fun K' hK => ?_)
              go_simp
              rw [hpe.out]
              have hE65 : ∀ oo, (w5.alloc oo).cell? ⟨gb, 0, none⟩ = some (.slice aov j capv) := fun oo => ((below_allocJ w5 oo).cell (p := ⟨gb, 0, none⟩) hgl5).trans hE5
              try dsimp only
              refine hK.out _ _ ⟨hE65 _, (hK5.alloc _).cellAt rfl, (hK5.alloc _).cellAt rfl, (hK5.alloc _).cellAt rfl, (hK5.alloc _).cellAt rfl, (hK5.alloc _).cellAt rfl, (hK5.alloc _).cellAt rfl, (hK5.alloc _).cellAt rfl⟩ ?_
              clear hK K'
              try simp only [Act.put, List.setIfInBounds_toArray, List.set_cons_zero, List.set_cons_succ]
              refine wpTree_1 8 hOps (by kernel_rfl) (by decide) rfl (fun K' hK => ?_)
              refine step_app1g rfl _ _ 22 rfl Tryz.underlying22 hiO hO0 hO1 hO2 rfl (by decide) (enc := encO) p rfl hops5.1 rfl (encO_len _) (encO_one _) (by rw [hpsl.out]; omega) (by rw [hpsl.out]; unfold maxLen; omega) hebs5 (fun g7 cap7 w7 hown7 hgr7 => ?_)
              rw [hpsl.out] at hown7 hgr7 ⊢
              have hbr5 : Below wr.heap.size wr w5 := hbr.trans (hb45.mono hbr.size)
              have hops7 := hops.snoc (S := fun _ => False) hUw ((Chg.of_below hbr5).mono (fun k h1 h2 => absurd h2 (by omega))) (fun k hk e => e) hown7 hgr7 hpI5
              have hc7 : Chg (fun k => UG ≤ k) wr w7 := ((Chg.of_below hbr5).mono (fun k h1 h2 => absurd h2 (by omega))).trans ((Chg.of_grown hgr7.grown).mono (fun k h1 h2 => (hops5.1.lt k h2).1))
              have hvl := fun k h2 => (hops.1.lt k h2)
              have hE7 : w7.cell? ⟨gb, 0, none⟩ = some (.slice aov j capv) := (hgr7.cell (b := gb) (o := 0) hgl5 (fun e => by have := (hvl gb e).1; omega)).trans hE5
              have hB7 := hgr7.blk hBg5 (fun e => by have := (hvl gb e).1; omega)
              have f7 := hB7.frozen 0
              have hK7 := hgr7.blk hK5 (fun e => by have := (hvl kb e).2; have := hkbe.out; omega)
              have hset := hG.out.1.setGr (S := fun k => UG ≤ k) (v := .slice (some ⟨g7, 0, none⟩) (j + 1) cap7) (ps := ps ++ [p]) (xs := ops.take (j + 1)) ⟨by rw [hG.out.2.1]; exact hgbs, by rw [hG.out.2.1, hG.out.2.2.2.2]; exact hvbs⟩ hc7 (fun k hk => by rw [hG.out.2.1]; exact hk) (by rw [hG.out.2.1]; exact hops7) (by rw [List.map_append, hpm.out, hti.out, List.map_singleton, hpx.out])
              obtain ⟨hG8, hops8⟩ := hset
              have hG8' : Hid (Gos (w7.setCell ⟨gb, 0, none⟩ (.slice (some ⟨g7, 0, none⟩) (j + 1) cap7)) w.heap.size (w7.setCell ⟨gb, 0, none⟩ (.slice (some ⟨g7, 0, none⟩) (j + 1) cap7)).heap.size (fun _ => False) gb ⟨.slice (some ⟨g7, 0, none⟩) (j + 1) cap7, ops.take (j + 1), p3.gB, (w7.setCell ⟨gb, 0, none⟩ (.slice (some ⟨g7, 0, none⟩) (j + 1) cap7)).heap.size, p3.tp, p3.vb, p3.vc⟩ ops (newGM i l) q M ∧ p3.gB = UG ∧ ops.take (j + 1) = ops.take (j + 1) ∧ Value.slice (some ⟨g7, 0, none⟩) (j + 1) cap7 = .slice (some ⟨g7, 0, none⟩) (j + 1) cap7 ∧ p3.vb = vb) := Lib.hid ⟨hG8, hG.out.2.1, rfl, rfl, hG.out.2.2.2.2⟩
              rw [hG.out.2.1] at hops8
              have hbw8 : Below w.heap.size w (w7.setCell ⟨gb, 0, none⟩ (.slice (some ⟨g7, 0, none⟩) (j + 1) cap7)) := (hbw.trans (hc7.below hbw.size (fun k hk e => by omega))).setCell (by show _ ≤ gb; omega) _
              have hUw8 : UG ≤ (w7.setCell ⟨gb, 0, none⟩ (.slice (some ⟨g7, 0, none⟩) (j + 1) cap7)).heap.size := by have := hc7.size; simp [World.setCell]; omega
              have hpm8 : Hid ((ps ++ [p]).map (·.x) = ops.take (j + 1)) := Lib.hid (by rw [List.map_append, hpm.out, hti.out, List.map_singleton, hpx.out])
              try dsimp only
              refine hK.out _ _ ⟨hE7, hK7.cellAt rfl, hK7.cellAt rfl, hK7.cellAt rfl, hK7.cellAt rfl, hK7.cellAt rfl, hK7.cellAt rfl, hK7.cellAt rfl⟩ ?_
              clear hK K'
              try simp only [Act.put, List.setIfInBounds_toArray, List.set_cons_zero, List.set_cons_succ]
              refine wpTree_nil hOps (by kernel_rfl) ?_
              refine hT.out _ _ ?_
              simp only [List.drop_succ_cons, List.drop_zero]
              clear hOps hT hTok
              try clear hHeld
              clear hown7 hgr7 hops7 hc7 hvl hB7 hK7 hG8 hG hops hops5 hopsi hG4 hG5 hb45 hpI hpI5 hK4 hK5 hBg4 hBg5 hgl5 hE5 hebs5 hE65 hE6 k0' k1' k2' k3' k4' k5' k6' hbr hbr5 hbw
              go_wp2_with fail
              go_roundw
              case rel => exact ⟨j + 1, ps ++ [p], _, _, _, by omega, by go_num, hG8', hops8, hpm8, hbw8, hUw8⟩
              case measure => simp [intOf]; omega
            · have hdi : decide ((j : Int) < (n : Int)) = false := by simp; omega
              have hjn' : j = n := by omega
              have hGe := hG.out.1
              have hgo : p3.gops = ops := by rw [hG.out.2.2.1, hjn', hn.out, List.take_length]
              have hres : NewP w ops k l M (.returned (.tuple #[.pointer (some ⟨gb, 0, none⟩), .int .i64 0])) wr := by
                refine ⟨hbw, fun h => absurd hE1.out h, fun _ => ⟨gb, p3, rfl, hgo, ?_⟩⟩
                rw [hke.out, Int.toNat_natCast, ← hq.out]
                exact hGe.growU hGe.uw (Nat.le_refl _)
              replace hres := Lib.hid hres
              clear hGe hG hops hjn' hgo
              go_wp2_with fail
              go_ret2
              exact hres.out
end Go.Proofs.YtjmbafcpbagpdaaGreat
