/- Disk: what only reads; copies of bytes. -/
import Derived.Test.YtjgiphoolfhlmaaDc
namespace Go.Proofs.Ytjgiphoolfhlmaa
open Go.RowKit Go.Maps
attribute [local go_sem] Oper.semAt_some
set_option linter.unusedVariables false
set_option linter.unusedSimpArgs false

theorem ready_any (b : Nat) (M : DM) (s : ByteArray) (n : Int) (w : World) (hs : s.size ≤ maxLen) (c1 : w.cell? ⟨b, 1, none⟩ = some (.bool M.fails)) :
    Calls Try.prog 39 #[.pointer (some ⟨b, 0, none⟩), .string s, .int .i64 n] w fun e w' => e = .returned (.int .i64 (readyM M s n : Nat)) ∧ Below w.heap.size w w' := by
  have hr := right_any s w hs
  obtain ⟨res, hres⟩ : ∃ res, res = readyM M s n := ⟨_, rfl⟩
  rw [← hres]
  obtain ⟨rt, hrt⟩ : ∃ rt, rt = rightN s := ⟨_, rfl⟩
  rw [← hrt] at hr
  obtain ⟨fl, hfl⟩ : ∃ fl, fl = M.fails := ⟨_, rfl⟩
  rw [← hfl] at c1
  have hq : res = if fl = true then 16 else if rt = false ∨ n < 0 then 1 else 0 := by rw [hres, hfl, hrt]; rfl
  clear hres hrt hfl
  replace hq := Lib.hid hq
  cases fl with
  | true =>
    obtain rfl : res = 16 := hq.out
    clear hq
    go_enter Try.func39, Try.ntmps39
    go_wp2_with fail
    go_ret
    exact ⟨rfl, Below.refl _ _⟩
  | false =>
    cases rt with
    | false =>
      obtain rfl : res = 1 := hq.out
      clear hq
      go_enter Try.func39, Try.ntmps39
      go_wp2_with fail
      refine hr.mono ?_
      rintro e w1 ⟨rfl, hb1⟩
      dsimp only
      go_wp2_with fail
      go_ret
      exact ⟨rfl, hb1⟩
    | true =>
      by_cases hn : n < 0
      · obtain rfl : res = 1 := by have := hq.out; simp [hn] at this; exact this
        have d1 : decide (n < 0) = true := by simp; omega
        clear hq
        go_enter Try.func39, Try.ntmps39
        go_wp2_with fail
        refine hr.mono ?_
        rintro e w1 ⟨rfl, hb1⟩
        dsimp only
        go_wp2_with fail
        go_ret
        exact ⟨rfl, hb1⟩
      · obtain rfl : res = 0 := by have := hq.out; simp [hn] at this; exact this
        have d1 : decide (n < 0) = false := by simp; omega
        clear hq
        go_enter Try.func39, Try.ntmps39
        go_wp2_with fail
        refine hr.mono ?_
        rintro e w1 ⟨rfl, hb1⟩
        dsimp only
        go_wp2_with fail
        go_ret
        exact ⟨rfl, hb1⟩

theorem eqU_nil (u : World) (m cap : Nat) : (binOp BinOp.eql 44 (.slice none m cap) (.slice none 0 0)).run Try.prog u = .ok (.bool true) u := by kernel_rfl
theorem eqU_some (u : World) (a : Addr) (m cap : Nat) : (binOp BinOp.eql 44 (.slice (some a) m cap) (.slice none 0 0)).run Try.prog u = .ok (.bool false) u := by kernel_rfl
attribute [local go_sem] eqU_nil eqU_some

/-- A row of bytes of the call's own is a file. -/
theorem FileAt.own {w : World} {base : Nat} {v : Value} {bs : List UInt8} (h : OwnL encU w base 5 1 v bs) : FileAt w base v bs := by
  rcases h.form with ⟨rfl, rfl⟩ | ⟨g, cap, cells, rfl, h2, h3, h4, h5, h6, h7, h8⟩
  · exact .inl ⟨rfl, none, rfl⟩
  · refine .inr ⟨g, cap, cells, rfl, h2, h3, h4, h6, ?_⟩
    rw [Nat.mul_one] at h8
    rw [h8]
    unfold cellsU
    clear h2 h3 h4 h5 h6 h7 h8 h
    induction bs with
    | nil => rfl
    | cons a r ih => rw [List.flatMap_cons, List.map_cons, ih]; rfl

set_option maxRecDepth 100000 in
set_option maxHeartbeats 1000000 in
theorem clone_any (bs : List UInt8) (ao : Option Addr) (cap base : Nat) (w : World) (hb : base ≤ w.heap.size) (hx : SlA w.heap.size 1 EU w ao cap bs) (hz : bs.length ≤ 140737488355328) :
    Calls Try.prog 41 #[.slice ao bs.length cap] w fun e w' => ∃ v, e = .returned v ∧ OwnL encU w' w.heap.size 5 1 v bs ∧ Below w.heap.size w w' := by
  obtain ⟨ii, hi, hz0, hz1, hz2⟩ := partsU
  obtain ⟨m, hm⟩ : ∃ m, m = bs.length := ⟨_, rfl⟩
  rw [← hm]
  cases ao with
  | none =>
    have hm0 : bs = [] := by
      cases bs with
      | nil => rfl
      | cons a r =>
        obtain ⟨b, off, e, _⟩ := hx.addr (by simp)
        cases e
    subst hm0
    simp only [List.length_nil] at hm
    subst hm
    go_enter Try.func41, Try.ntmps41
    go_wp2_with fail
    go_ret
    exact ⟨_, rfl, OwnL.nil _ _ _ _ _, Below.refl _ _⟩
  | some a =>
    replace hm := Lib.hid hm
    go_enter Try.func41, Try.ntmps41
    go_wp2_with (at_builtin; refine Shut.out ?ka)
    unfold Shut
    have hii2 : SlA w.heap.size 1 EU (w.alloc (.cells #[] 5)) (some a) cap bs := hx.imp (belowAlloc w _) (Nat.le_refl _) (fun cs x _ h => h)
    refine wpList_app_sla (xs := []) (ys := bs) (enc := encU) (base := w.heap.size) _ rfl _ _ 44 rfl Try.underlying44 hi hz0 hz1 hz2 rfl (by decide) rfl (ownEmpty w 1 5) (by show Value.slice (some a) m cap = _; rw [hm.out]) hii2 encU_len encU_one (by unfold maxLen; simp; omega) (by simp; omega) (by simp) (fun v3 w3 hown3 hgr3 => ?_)
    rw [List.nil_append] at hown3
    have hb23 : Below w.heap.size w w3 := (belowAlloc w (.cells #[] 5)).grown hgr3 (by simp) (fun g hg => by simp [Act.eval, Value.ownBlock] at hg; omega)
    clear hii2 hgr3
    go_wp2_with fail
    go_ret
    exact ⟨_, rfl, hown3, hb23⟩

theorem zeroB (w : World) : (zeroValue 44).run Try.prog w = .ok (.slice none 0 0) w := Try.zeroValue44 w
theorem del_ent (l : List (ByteArray × FV)) (s : ByteArray) : delE (entF l) s = entF (withoutL l s) := (withoutL_map FV.v l s).symm
theorem ent_keys (l : List (ByteArray × FV)) : (entF l).map Prod.fst = l.map Prod.fst := by simp [mapL, List.map_map, Function.comp_def]
theorem without_perm {α : Type} : ∀ {l : List (ByteArray × α)} {s : ByteArray} {f : α}, (l.map Prod.fst).Nodup → (s, f) ∈ l → l.Perm ((s, f) :: withoutL l s)
  | [], s, f, _, h => by cases h
  | p :: q, s, f, hn, h => by
    rw [List.map_cons, List.nodup_cons] at hn
    unfold withoutL
    rw [List.filter_cons]
    rcases List.mem_cons.1 h with rfl | h
    · simp only [decide_true, Bool.not_true, Bool.false_eq_true, if_false]
      have : q.filter (fun p => !decide (p.1 = s)) = q := List.filter_eq_self.2 (fun p hp => by
        simp only [Bool.not_eq_true', decide_eq_false_iff_not]
        exact fun e => hn.1 (List.mem_map.2 ⟨p, hp, e⟩))
      rw [this]
    · have hne : p.1 ≠ s := fun e => hn.1 (List.mem_map.2 ⟨_, h, e.symm⟩)
      simp only [hne, decide_false, Bool.not_false, if_true]
      exact ((without_perm hn.2 h).cons p).trans (.swap _ _ _)
theorem ent_mem {l : List (ByteArray × FV)} {s : ByteArray} {v : Value} (hm : (s, v) ∈ entF l) : ∃ f : FV, v = f.v ∧ (s, f) ∈ l := by
  obtain ⟨p, hp, e⟩ := List.mem_map.1 hm
  cases e
  exact ⟨p.2, rfl, hp⟩

set_option maxRecDepth 100000 in
set_option maxHeartbeats 1000000 in
theorem used_any {base b : Nat} {x : DX} {M : DM} {N : Nat} (w : World) (h : Dsk w base b x M) (hok : OkM N M) (hN : N ≤ 1000000) :
    Calls Try.prog 40 #[.pointer (some ⟨b, 0, none⟩)] w fun e w' => e = .returned (.int .i64 (sumL M.now : Nat)) ∧ Below w.heap.size w w' := by
  have c2 := h.c2
  have hM := h.mapn
  have hsum : sumL (absF x.now) = sumL M.now := sumL_perm h.permn
  have hle : sumL M.now ≤ 1000000 * 1073741824 := Nat.le_trans (sumL_le (fun p hp => (hok.nown p hp).2)) (Nat.mul_le_mul_right _ (Nat.le_trans hok.ln hN))
  obtain ⟨now, hnow⟩ : ∃ now, now = x.now := ⟨_, rfl⟩
  rw [← hnow] at hM hsum
  obtain ⟨mn, hmn⟩ : ∃ mn, mn = x.mn := ⟨_, rfl⟩
  rw [← hmn] at hM c2
  obtain ⟨S, hS⟩ : ∃ S, S = sumL M.now := ⟨_, rfl⟩
  rw [← hS] at hsum hle ⊢
  replace hsum := Lib.hid hsum
  clear hmn hnow hS h hok
  go_enter Try.func40, Try.ntmps40
  go_wp2_with (at_range; refine wpList_rangeL rfl _ _ rfl keyN hM Try.underlying52 rfl ?next)
  case next =>
  intro w1 hr hb1 hs1
  obtain ⟨rb, hrb⟩ : ∃ rb, rb = w.heap.size := ⟨_, rfl⟩
  rw [← hrb] at hr hb1 hs1 ⊢
  have hrb1 : rb < w1.heap.size := by omega
  have hmr : mn < rb := by rw [hrb]; exact hM.lt
  clear hs1 c2 hM
  replace hrb := Lib.hid hrb
  go_wp2_with fail
  go_loopw [3] (fun v wr => ∃ (rest : List (ByteArray × FV)) (n : Nat), RangeL Try.prog 9 klT wfT wr mn rb (entF now) (entF rest) ∧ v = .int .i64 n ∧ n + sumL (absF rest) = S ∧ Below rb w wr ∧ rb < wr.heap.size) (fun _ wr => wr.rangeLeft mn rb)
  case atStart => exact ⟨now, 0, hr, rfl, by rw [← hsum.out, Nat.zero_add], hb1, hrb1⟩
  case round =>
    clear hr hb1 hrb1
    obtain ⟨rest, n, hr, rfl, hsn, hbr, hlt⟩ := hrel
    go_wp2_with (at_next; refine wpList_nextL rfl _ rfl keyN hr rfl ?fin ?more)
    case fin =>
      intro h0
      have hr0 : rest = [] := by cases rest with | nil => rfl | cons a r => cases h0
      subst hr0
      have hn : n = S := by simpa [sumL, mapL] using hsn
      subst hn
      go_wp2_with fail
      go_ret
      exact ⟨rfl, by rw [← hrb.out]; exact hbr⟩
    case more =>
      intro s v w2 hm hx hr2 hlt2 hch hsz hen
      obtain ⟨f, rfl, hfm⟩ := ent_mem hm
      have hp := without_perm (by rw [← ent_keys]; exact hr.rnodup) hfm
      have hs2 : sumL (absF rest) = f.bs.length + sumL (absF (withoutL rest s)) := by
        rw [show sumL (absF rest) = sumL (absF ((s, f) :: withoutL rest s)) from sumL_perm (hp.map (fun p : ByteArray × FV => (p.1, p.2.bs)))]
        rfl
      rw [del_ent] at hr2
      have hb2 : Below rb w w2 := hbr.trans (hch.below (by omega) (fun j hj e => by omega))
      obtain ⟨k, hk⟩ : ∃ k, k = f.bs.length := ⟨_, rfl⟩
      rw [← hk] at hs2
      have hen2 : (Instr.entry (.pointer (some ⟨rb, 0, none⟩))).run Try.prog w2 = .ok (.tuple #[.string s, .slice f.ao k f.cap]) w2 := by rw [hen, hk]; rfl
      have hfv : f.v = .slice f.ao k f.cap := by rw [hk]; rfl
      rw [hfv]
      have hwr : IntKind.i64.wrap ((n : Int) + (k : Int)) = (n : Int) + (k : Int) := IntWalk.i64_in _ (by omega)
      have hrs : n + k + sumL (absF (withoutL rest s)) = S := by omega
      clear hen hp hfm hm hx hfv hs2
      replace hk := Lib.hid hk
      go_wp2_with fail
      go_roundw
      case rel => exact ⟨withoutL rest s, n + k, hr2, by first | rfl | simp, hrs, hb2, by omega⟩
      case measure => exact hlt2

set_option maxRecDepth 100000 in
set_option maxHeartbeats 1000000 in
/-- What a map of files tells of a name: a copy of its bytes. -/
theorem get_any (s : ByteArray) (mn base : Nat) (l : List (ByteArray × FV)) (w : World) (hs : s.size ≤ maxLen) (hM : MapL Try.prog 9 klT wfT w mn (entF l)) (hf : ∀ p ∈ l, FileAt w base p.2.v p.2.bs) (hz : ∀ p ∈ l, p.2.bs.length ≤ 140737488355328) :
    Calls Try.prog 30 #[.map (some mn), .string s] w fun e w' => ∃ v, e = .returned (.tuple #[v, .bool (getL l s).isSome]) ∧ OwnL encU w' w.heap.size 5 1 v ((getL l s).map FV.bs |>.getD []) ∧ Below w.heap.size w w' := by
  have hget : getE (entF l) s = (getL l s).map FV.v := getE_getL l s
  cases hg : getL l s with
  | none =>
    rw [hg] at hget
    simp only [Option.map_none] at hget
    simp only [Option.map_none, Option.isSome_none, Option.getD_none]
    clear hf hz hg
    go_enter Try.func30, Try.ntmps30
    go_wp2_with (at_lookup; refine wpList_lookupL rfl _ _ _ _ rfl keyN hM Try.underlying52 (zeroB _) (x := s) hs rfl rfl ?_)
    go_ret2
    exact ⟨_, rfl, OwnL.nil _ _ _ _ _, Below.refl _ _⟩
  | some f =>
    rw [hg] at hget
    simp only [Option.map_some] at hget
    simp only [Option.map_some, Option.isSome_some, Option.getD_some]
    have hfa := hf _ (getL_mem hg)
    obtain ⟨ao, cap, hv, hsl⟩ := hfa.sla
    have hc := clone_any f.bs ao cap w.heap.size w (Nat.le_refl _) hsl (hz _ (getL_mem hg))
    dsimp only at hv
    rw [hv] at hget
    obtain ⟨k, hk⟩ : ∃ k, k = f.bs.length := ⟨_, rfl⟩
    rw [← hk] at hc hget
    clear hf hz hg hfa hsl hv hk
    go_enter Try.func30, Try.ntmps30
    go_wp2_with (at_lookup; refine wpList_lookupL rfl _ _ _ _ rfl keyN hM Try.underlying52 (zeroB _) (x := s) hs rfl rfl ?_)
    refine hc.mono ?_
    rintro e w1 ⟨v1, rfl, hown, hb1⟩
    dsimp only
    go_wp2_with fail
    go_ret2
    exact ⟨_, rfl, hown, hb1⟩

theorem read_any {base b : Nat} {x : DX} {M : DM} {N : Nat} (s : ByteArray) (w : World) (hs : s.size ≤ maxLen) (h : Dsk w base b x M) (hok : OkM N M) :
    Calls Try.prog 14 #[.pointer (some ⟨b, 0, none⟩), .string s] w fun e w' => ∃ v, e = .returned (.tuple #[v, .bool (getL M.now s).isSome]) ∧ OwnL encU w' w.heap.size 5 1 v (bytesOf M.now s) ∧ Below w.heap.size w w' := by
  have hg := get_any s x.mn base x.now w hs h.mapn h.filn (fun p hp => by
    have := (hok.nown (p.1, p.2.bs) (h.permn.mem_iff.1 (List.mem_map.2 ⟨p, hp, rfl⟩))).2
    dsimp only at this; omega)
  have hq := get_abs h.permn hok.now s
  have c2 := h.c2
  rw [show ((getL x.now s).map FV.bs).getD [] = bytesOf M.now s by unfold bytesOf; rw [hq], show (getL x.now s).isSome = (getL M.now s).isSome by rw [hq]; simp] at hg
  generalize (getL M.now s).isSome = is at hg ⊢
  clear hq h hok
  go_enter Try.func14, Try.ntmps14
  go_wp2_with fail
  refine hg.mono ?_
  rintro e w1 ⟨v, rfl, hown, hb⟩
  dsimp only
  go_wp2_with fail
  go_ret2
  exact ⟨_, rfl, hown, hb⟩

theorem durable_any {base b : Nat} {x : DX} {M : DM} {N : Nat} (s : ByteArray) (w : World) (hs : s.size ≤ maxLen) (h : Dsk w base b x M) (hok : OkM N M) :
    Calls Try.prog 16 #[.pointer (some ⟨b, 0, none⟩), .string s] w fun e w' => ∃ v, e = .returned (.tuple #[v, .bool (getL M.safe s).isSome]) ∧ OwnL encU w' w.heap.size 5 1 v (bytesOf M.safe s) ∧ Below w.heap.size w w' := by
  have hg := get_any s x.md base x.safe w hs h.maps h.fils (fun p hp => by
    have := (hok.safen (p.1, p.2.bs) (h.perms.mem_iff.1 (List.mem_map.2 ⟨p, hp, rfl⟩))).2
    dsimp only at this; omega)
  have hq := get_abs h.perms hok.safe s
  have c3 := h.c3
  rw [show ((getL x.safe s).map FV.bs).getD [] = bytesOf M.safe s by unfold bytesOf; rw [hq], show (getL x.safe s).isSome = (getL M.safe s).isSome by rw [hq]; simp] at hg
  generalize (getL M.safe s).isSome = is at hg ⊢
  clear hq h hok
  go_enter Try.func16, Try.ntmps16
  go_wp2_with fail
  refine hg.mono ?_
  rintro e w1 ⟨v, rfl, hown, hb⟩
  dsimp only
  go_wp2_with fail
  go_ret2
  exact ⟨_, rfl, hown, hb⟩

theorem fail_any {base b : Nat} {x : DX} {M : DM} (on : Bool) (w : World) (h : Dsk w base b x M) :
    Calls Try.prog 12 #[.pointer (some ⟨b, 0, none⟩), .bool on] w fun e w' => (∃ v, e = .returned v) ∧ Dsk w' base b x (failM M on) ∧ Chg (DS x b) w w' := by
  have c1 := h.c1
  have hf := h.blk.frozen 1
  have hfin : Dsk (w.setCell ⟨b, 1, none⟩ (.bool on)) base b x (failM M on) := by
    have hc : Chg (fun k => k = b) w (w.setCell ⟨b, 1, none⟩ (.bool on)) := (Chg.refl _ _).setCell _ _ (fun _ => rfl)
    have hU : ∀ k, k = b → ∀ cs, ¬ Blk w k cs 5 := fun k hk => h.noU8 k (.inl hk)
    refine ⟨by simpa [failM] using h.blk.set 1 (.bool on), h.mapn.chg hc (fun e => h.mapn.ne_blk h.blk e), h.maps.chg hc (fun e => h.maps.ne_blk h.blk e), h.row.chg hc (fun g e1 e2 => h.row.ne_blk h.blk (by decide) (by rw [e1, e2])), fun p hp => (h.filn p hp).chg hc hU, fun p hp => (h.fils p hp).chg hc hU, fun p hp => (h.filc p hp).chg hc hU, h.permn, h.perms, h.chq, h.ne, h.bb, h.bn, h.bm⟩
  clear h
  go_enter Try.func12, Try.ntmps12
  go_wp2_with fail
  refine bodyPost_end (results_none rfl _ _ _) rfl ?_
  exact ⟨⟨_, rfl⟩, hfin, (Chg.refl _ _).setCell _ _ (fun _ => .inl rfl)⟩

theorem limit_any {base b : Nat} {x : DX} {M : DM} (r : Int) (w : World) (h : Dsk w base b x M) :
    Calls Try.prog 13 #[.pointer (some ⟨b, 0, none⟩), .int .i64 r] w fun e w' => e = .returned (.int .i64 (limitM M r).1) ∧ Dsk w' base b x (limitM M r).2 ∧ Chg (DS x b) w w' := by
  have c0 := h.c0
  have hf := h.blk.frozen 0
  unfold limitM
  by_cases hr : r < 0 ∨ 1073741824 < r
  · rw [if_pos hr]
    have hgo : Dsk w base b x M ∧ Chg (DS x b) w w := ⟨h, Chg.refl _ _⟩
    rcases hr with h1 | h1
    · have d1 : decide (r < 0) = true := by simp; omega
      clear h
      go_enter Try.func13, Try.ntmps13
      go_wp2_with fail
      go_ret
      exact ⟨rfl, hgo⟩
    · have d1 : decide (r < 0) = false := by simp; omega
      have d2 : decide (1073741824 < r) = true := by simp; omega
      clear h
      go_enter Try.func13, Try.ntmps13
      go_wp2_with fail
      go_ret
      exact ⟨rfl, hgo⟩
  · rw [if_neg hr]
    have d1 : decide (r < 0) = false := by simp; omega
    have d2 : decide (1073741824 < r) = false := by simp; omega
    have hfin : Dsk (w.setCell ⟨b, 0, none⟩ (.int .i64 r)) base b x { M with room := r } := by
      have hc : Chg (fun k => k = b) w (w.setCell ⟨b, 0, none⟩ (.int .i64 r)) := (Chg.refl _ _).setCell _ _ (fun _ => rfl)
      have hU : ∀ k, k = b → ∀ cs, ¬ Blk w k cs 5 := fun k hk => h.noU8 k (.inl hk)
      refine ⟨by simpa using h.blk.set 0 (.int .i64 r), h.mapn.chg hc (fun e => h.mapn.ne_blk h.blk e), h.maps.chg hc (fun e => h.maps.ne_blk h.blk e), h.row.chg hc (fun g e1 e2 => h.row.ne_blk h.blk (by decide) (by rw [e1, e2])), fun p hp => (h.filn p hp).chg hc hU, fun p hp => (h.fils p hp).chg hc hU, fun p hp => (h.filc p hp).chg hc hU, h.permn, h.perms, h.chq, h.ne, h.bb, h.bn, h.bm⟩
    clear h hr
    go_enter Try.func13, Try.ntmps13
    go_wp2_with fail
    go_ret
    exact ⟨rfl, hfin, (Chg.refl _ _).setCell _ _ (fun _ => .inl rfl)⟩
end Go.Proofs.Ytjgiphoolfhlmaa
