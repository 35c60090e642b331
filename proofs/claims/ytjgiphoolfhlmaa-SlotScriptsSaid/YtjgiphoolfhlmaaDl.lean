/- Disk: Crash. -/
import Derived.Test.YtjgiphoolfhlmaaDk
import Derived.Test.YtjgiphoolfhlmaaLayC
namespace Go.Proofs.Ytjgiphoolfhlmaa
open Go.RowKit Go.Maps Go.Shelf
attribute [local go_sem] Oper.semAt_some
set_option linter.unusedVariables false
set_option linter.unusedSimpArgs false

/-- A change as a round has it. -/
def OkY (w : World) (base : Nat) (y : CH × Nat) : Prop := FileAt w base y.1.d.v y.1.d.bs ∧ y.1.kind ≤ 2 ∧ y.1.name.size ≤ 32 ∧ y.1.pos + y.1.d.bs.length ≤ 1073741824
abbrev YOf (w : World) (base : Nat) := {y : CH × Nat // OkY w base y}
theorem prs_mem {picks : List Int} : ∀ {i : Nat} {l : List CH} {y : CH × Nat}, y ∈ prs picks i l → y.1 ∈ l
  | _, [], _, h => by cases h
  | i, c :: r, y, h => by
    unfold prs at h
    rcases List.mem_cons.1 h with rfl | h
    · simp
    · exact List.mem_cons_of_mem _ (prs_mem h)
theorem OkF.folds {K : Nat} : ∀ (l : List (CH × Nat)) {S : Files} {K : Nat}, OkF K S → (∀ y ∈ l, y.1.name.size ≤ 32 ∧ y.1.pos + y.1.d.bs.length ≤ 1073741824) → OkF (K + l.length) (foldF S l)
  | [], S, K, h, _ => h
  | y :: r, S, K, h, hc => by
    have := OkF.folds (K := K) r (h.fall (c := y.1.abs) (hc y (by simp)) y.2) (fun x hx => hc x (by simp [hx]))
    rw [List.length_cons, show K + (r.length + 1) = K + 1 + r.length by omega]
    exact this

/-- What a round of Crash keeps. -/
def CrI (w : World) (base b : Nat) (x : DX) (M : DM) (pre : List (YOf w base)) (W : World) : Prop :=
  ∃ l : List (ByteArray × FV), Dsk W base b { x with safe := l } { M with safe := foldF M.safe (pre.map (·.1)) } ∧ Chg (fun k => k = x.md) w W ∧ ∀ g, BlkL l g → BlkL x.safe g ∨ w.heap.size ≤ g
theorem crI_own (w : World) (base b : Nat) (x : DX) (M : DM) (h0 : Dsk w base b x M) {B : Nat} (hB : w.heap.size ≤ B) : OwnFrom B (CrI w base b x M) := by
  rintro pre W W' row ⟨l, h1, h2, h9⟩ hg hr
  refine ⟨l, h1.keep (Chg.of_grown hg) (fun k hk hd => ?_) (fun k hk cs hc => ?_), h2.then_new (Chg.of_grown hg) (fun k hk e => ?_), h9⟩
  · obtain ⟨h3, _⟩ := hr k hk
    have := h0.lt k hd
    omega
  · obtain ⟨_, o, h4, h5⟩ := hr k hk
    unfold Blk at hc
    rw [hc] at h4
    cases h4
    simp [Obj.isCells] at h5
  · obtain ⟨h3, _⟩ := hr k e
    omega

/-- A file cut short, in its place. -/
theorem FileAt.cut {w : World} {base : Nat} {f : FV} (h : FileAt w base f.v f.bs) {k : Nat} (hk : k < f.bs.length) : FileAt w base (.slice f.ao k k) (f.bs.take k) := by
  have hl : (f.bs.take k).length = k := by rw [List.length_take]; omega
  rcases h with ⟨h1, ao, h2⟩ | ⟨g, cap, cells, h1, h2, h3, h4, h5, h6⟩
  · rw [h1] at hk; cases hk
  · unfold FV.v at h1
    simp only [Value.slice.injEq] at h1
    refine .inr ⟨g, k, cells, by rw [hl, h1.1], h2, by rw [hl]; exact Nat.le_refl _, by omega, h5, ?_⟩
    rw [hl]
    have h7 : (cells.toList.take f.bs.length).take k = (cellsU f.bs).take k := by rw [h6]
    rw [List.take_take, Nat.min_eq_left (Nat.le_of_lt hk)] at h7
    rw [h7]
    unfold cellsU
    rw [List.map_take]

/-- A crash's end: the map of the disk copied, the changes gone. -/
theorem Dsk.crash {w w1 : World} {base b mb : Nat} {x : DX} {M : DM} (h : Dsk w base b x M) (hM : MapL Try.prog 9 klT wfT w1 mb (entF x.safe)) (hb : Below w.heap.size w w1) (hmb : w.heap.size ≤ mb) (hbase : base ≤ w.heap.size) :
    Dsk (((w1.setCell ⟨b, 2, none⟩ (.map (some mb))).setCell ⟨b, 4, none⟩ (.slice none 0 0)).setCell ⟨b, 1, none⟩ (.bool false)) base b { x with mn := mb, cv := .slice none 0 0, now := x.safe, chs := [] } { M with fails := false, now := M.safe, chs := [] } ∧
    Chg (fun k => k = b) w1 (((w1.setCell ⟨b, 2, none⟩ (.map (some mb))).setCell ⟨b, 4, none⟩ (.slice none 0 0)).setCell ⟨b, 1, none⟩ (.bool false)) := by
  have h1 := h.below hb
  have hc : Chg (fun k => k = b) w1 (((w1.setCell ⟨b, 2, none⟩ (.map (some mb))).setCell ⟨b, 4, none⟩ (.slice none 0 0)).setCell ⟨b, 1, none⟩ (.bool false)) := by
    have a1 : Chg (fun k => k = b) w1 (w1.setCell ⟨b, 2, none⟩ (.map (some mb))) := (Chg.refl _ _).setCell _ _ (fun _ => rfl)
    have a2 : Chg (fun k => k = b) w1 ((w1.setCell ⟨b, 2, none⟩ (.map (some mb))).setCell ⟨b, 4, none⟩ (.slice none 0 0)) := a1.setCell _ _ (fun _ => rfl)
    exact a2.setCell _ _ (fun _ => rfl)
  have hU : ∀ k, k = b → ∀ cs, ¬ Blk w1 k cs 5 := fun k hk => h1.noU8 k (.inl hk)
  refine ⟨⟨by simpa using ((h1.blk.set 2 (.map (some mb))).set 4 (.slice none 0 0)).set 1 (.bool false), hM.chg hc (fun e => hM.ne_blk h1.blk e), h1.maps.chg hc (fun e => h1.maps.ne_blk h1.blk e), OwnL.nil _ _ _ _ _, fun p hp => (h1.fils p hp).chg hc hU, fun p hp => (h1.fils p hp).chg hc hU, fun c hc3 => (by cases hc3), h.perms, h.perms, rfl, ?_, h.bb, Nat.le_trans hbase hmb, h.bm⟩, hc⟩
  have := h.maps.lt
  dsimp only
  omega

theorem Dsk.shutM {w w' : World} {base b B : Nat} {x : DX} {M : DM} (h : Dsk w base b x M) (hs : ShutM B w w') : Dsk w' base b x M := by
  refine h.keep hs.chg ?_ (fun k hk cs hc => by obtain ⟨y, e⟩ := hk; unfold Blk at hc; rw [hc] at e; cases e)
  rintro k ⟨y, e⟩ (rfl | rfl | rfl | hk)
  · exact h.blk.noDef y e
  · obtain ⟨ms, cl, hb⟩ := h.mapn.obj
    rw [hb] at e
    cases e
  · obtain ⟨ms, cl, hb⟩ := h.maps.obj
    rw [hb] at e
    cases e
  · rcases h.row.form with ⟨h1, _⟩ | ⟨g2, cap, cells, h1, h2, _⟩
    · rw [h1] at hk; cases hk
    · rw [h1] at hk
      obtain rfl : g2 = k := by simpa [Value.ownBlock] using hk
      exact h2.noDef y e

/-- What a crash does: of the files that lie behind it, those that are not new were durable. -/
def DStepC (w : World) (base b : Nat) (x : DX) (M' : DM) (w' : World) : Prop :=
  ∃ x', Dsk w' base b x' M' ∧ Chg (DS x b) w w' ∧ (∀ k, DS x' b k → DS x b k ∨ w.heap.size ≤ k) ∧ NewF w x x' ∧ ∀ g, BlkF x' g → BlkL x.safe g ∨ w.heap.size ≤ g

theorem mclone_any (mb : Nat) (es : List (ByteArray × Value)) (w : World) (hM : MapL Try.prog 9 klT wfT w mb es) :
    Calls Try.prog 29 #[.map (some mb)] w fun e w' => e = .returned (.map (some w.heap.size)) ∧ MapL Try.prog 9 klT wfT w' w.heap.size es ∧ Below w.heap.size w w' := by
  obtain ⟨l, ho, hl⟩ := hM.own
  have h := AnyW.maps_Clone_owns layClone 9 rawE mb es.length (.map l) w ho
  change Calls Try.prog 29 _ _ _ at h
  refine h.mono ?_
  rintro e w' ⟨rfl, h1, _, h2⟩
  exact ⟨rfl, ⟨⟨l, h1, hl⟩, hM.nodup, hM.wf⟩, h2⟩

set_option maxRecDepth 100000 in
set_option maxHeartbeats 8000000 in
theorem crash_any {base b : Nat} {x : DX} {M : DM} {N : Nat} (picks : List Int) (pa : Option Addr) (pc : Nat) (w : World) (h : Dsk w base b x M) (hok : OkM N M) (hN : N ≤ 1000000) (hb : base ≤ w.heap.size) (hpk : SlA w.heap.size 1 (RI .i64) w pa pc picks) :
    Calls Try.prog 11 #[.pointer (some ⟨b, 0, none⟩), .slice pa picks.length pc] w fun e w' => (∃ v, e = .returned v) ∧ DStepC w base b x (crashM M picks) w' := by
  obtain ⟨pl, hpl⟩ : ∃ pl, pl = picks.length := ⟨_, rfl⟩
  rw [← hpl]
  have hall := fun w1 => all_any (.pointer (some ⟨b, 0, none⟩)) b rfl pa pl pc w1
  have hba : Below w.heap.size w (w.alloc (.cells #[.pointer (some ⟨b, 0, none⟩)] 23)) := belowAlloc _ _
  replace hpl := Lib.hid hpl
  replace hall := Lib.hid hall
  refine calls_of_marks Try.func11 rfl ?_
  simp only [Try.ntmps11, List.size_toArray, List.length_cons, List.length_nil, Nat.reduceAdd, Nat.reduceSub, Array.replicate_succ, Array.replicate_zero, List.push_toArray, List.append_toArray, List.nil_append, List.cons_append]
  go_wp2_with fail
  refine (hall.out _).mono ?_
  rintro e w1 ⟨rfl, hw1⟩
  obtain ⟨db, hdb⟩ : ∃ db, db = w.heap.size := ⟨_, rfl⟩
  have hb1 : Below w.heap.size w w1 := by rw [hw1]; exact (hba.alloc (by simp) _).alloc (by simp; omega) _
  have hd1 : Blk w1 db #[.pointer (some ⟨b, 0, none⟩)] 23 := by
    rw [hw1, hdb]
    exact ((Blk.new w #[.pointer (some ⟨b, 0, none⟩)] 23).alloc _).alloc _
  have hd2 : Blk w1 (db + 1) #[.pointer (some ⟨b, 0, none⟩)] 23 := by
    have := (Blk.new (w.alloc (.cells #[.pointer (some ⟨b, 0, none⟩)] 23)) #[.pointer (some ⟨b, 0, none⟩)] 23).alloc (.cells #[.slice pa pl pc] 35)
    rw [hw1, hdb]
    rwa [World.size_alloc] at this
  have hd3 : Blk w1 (db + 2) #[.slice pa pl pc] 35 := by
    have := Blk.new ((w.alloc (.cells #[.pointer (some ⟨b, 0, none⟩)] 23)).alloc (.cells #[.pointer (some ⟨b, 0, none⟩)] 23)) #[.slice pa pl pc] 35
    rw [hw1, hdb]
    rwa [World.size_alloc, World.size_alloc] at this
  have hz1 : w1.heap.size = db + 3 := by rw [hw1, hdb]; simp
  have hsz : (w.alloc (.cells #[.pointer (some ⟨b, 0, none⟩)] 23)).heap.size = db + 1 := by rw [hdb]; simp
  rw [hsz, ← hdb]
  replace hdb := Lib.hid hdb
  clear hw1 hba hall hsz
  replace hz1 := Lib.hid hz1
  have h1 := h.below hb1
  have hpk1 : SlA w1.heap.size 1 (RI .i64) w1 pa pc picks := hpk.imp hb1 hb1.size (fun cs x _ h => h)
  have hln : x.chs.length ≤ 1000000 := Nat.le_trans (chsN h hok) hN
  have hch : ∀ y ∈ prs picks 0 x.chs, OkY w1 base y := fun y hy => by
    have h2 := prs_mem hy
    have h3 := hok.chn y.1.abs (by rw [← h.chq]; exact List.mem_map.2 ⟨_, h2, rfl⟩)
    exact ⟨h1.filc _ h2, h3.1, h3.2.1, h3.2.2.1⟩
  obtain ⟨zs, hzs⟩ : ∃ zs : List (YOf w1 base), zs.map (·.1) = prs picks 0 x.chs := ⟨(prs picks 0 x.chs).pmap Subtype.mk hch, by rw [List.map_pmap]; exact List.pmap_eq_self.2 (fun _ _ => rfl)⟩
  have hzl : zs.length = x.chs.length := by rw [← List.length_map (f := (·.1)), hzs, prs_len]
  have hlen0 : M.safe.length + x.chs.length ≤ N := by
    have := hok.lsc
    rw [← h.chq, List.length_map] at this
    exact this
  have hst := all_stops (α := YOf w1 base) (·.1) Fence.wide (8 - 1) trivial rfl (by omega) (db + 1) (db + 2) b base x.cv x.chs picks pa pc zs hzs hln w1 (hd2.cellAt rfl) (by rw [← hpl.out]; exact hd3.cellAt rfl) h1.c4 h1.row hpk1
  dsimp only
  go_wp2_with fail
  refine (wpIn_wide (n := 8)).1 ?_
  refine wpIn_range_boxed rfl (by omega) (gf := 46) (lb := #[.pointer (some ⟨db + 1, 0, none⟩), .pointer (some ⟨db + 2, 0, none⟩)]) rfl trivial (enters_of Try.func46 (by kernel_rfl) rfl)
    hst KpA.trans (fun W l o o' h1 h2 h3 h4 => KpA.put o' h2 h3) (Below.refl _ _) (fun _ => rfl)
    (CrI w1 base b x M) (fun _ _ _ => False) (crI_own w1 base b x M h1 (Nat.le_refl _)) (fun _ _ _ _ _ h _ _ => h) ⟨x.safe, h1, Chg.refl _ _, fun g h => .inl h⟩
    (fun x Bx W => w1.heap.size ≤ Bx ∧ Blk W Bx (encC x.1.1).toArray 73) (fun x Bx _ X Y row hs hg hr => ⟨hs.1, hs.2.grownN hg (fun r e => (hr r e).2)⟩)
    ?f ?assign ?body ?done ?stop
  case assign =>
    rintro l pre x2 W K ⟨l', hD, hC, hN9⟩ hK
    unfold FV.v at hK ⊢
    gi_wp2
    have hba : Below W.heap.size W (W.alloc (.cells #[.int .i64 x2.1.1.kind, .string x2.1.1.name, .int .i64 x2.1.1.pos, .slice x2.1.1.d.ao x2.1.1.d.bs.length x2.1.1.d.cap] 73)) := belowAlloc _ _
    have hBk : Blk (W.alloc (.cells #[.int .i64 x2.1.1.kind, .string x2.1.1.name, .int .i64 x2.1.1.pos, .slice x2.1.1.d.ao x2.1.1.d.bs.length x2.1.1.d.cap] 73)) W.heap.size (encC x2.1.1).toArray 73 := Blk.new _ _ _
    have hDb := hD.below hba
    have hCb : Chg (fun k => k = x.md) w1 (W.alloc (.cells #[.int .i64 x2.1.1.kind, .string x2.1.1.name, .int .i64 x2.1.1.pos, .slice x2.1.1.d.ao x2.1.1.d.bs.length x2.1.1.d.cap] 73)) := hC.alloc _
    have hsW := hC.size
    generalize (W.alloc (.cells #[.int .i64 x2.1.1.kind, .string x2.1.1.name, .int .i64 x2.1.1.pos, .slice x2.1.1.d.ao x2.1.1.d.bs.length x2.1.1.d.cap] 73)) = W5 at hba hBk hDb hCb ⊢
    have hk1 : KeepsFrom w1.heap.size W W5 := keepsFrom_below hba
    have hk2 : KpA W W5 := KpA.of_below hba
    clear hba hD hC
    generalize W.heap.size = Bx at hBk hsW ⊢
    exact hK Bx W5 hk1 hk2 ⟨l', hDb, hCb, hN9⟩ ⟨hsW, hBk⟩
  case body =>
    rintro l pre x2 Bx W hl ⟨r, hr⟩ ⟨l', hD, hC, hN9⟩ ⟨hBx, hX⟩ hlt
    replace hN9 := Lib.hid hN9
    obtain ⟨⟨c, p⟩, hcy⟩ := x2
    obtain ⟨hfd, hk2, hnm, hpd⟩ := hcy
    dsimp only at hX hfd hk2 hnm hpd
    have hs : c.name.size ≤ maxLen := by unfold maxLen; omega
    obtain ⟨S, hS⟩ : ∃ S, S = foldF M.safe (pre.map (·.1)) := ⟨_, rfl⟩
    have hOF : OkF (M.safe.length + pre.length) S := by
      rw [hS]
      have := OkF.folds (K := M.safe.length) (pre.map (·.1)) ⟨hok.safe, hok.safen, Nat.le_refl _⟩ (fun y hy => by obtain ⟨z, _, rfl⟩ := List.mem_map.1 hy; exact ⟨z.2.2.2.1, z.2.2.2.2⟩)
      rwa [List.length_map] at this
    rw [← hS] at hD
    have hgo : ∀ (W' : World) (l2 : List (ByteArray × FV)) (S2 : Files), S2 = fallM S c.abs p → Dsk W' base b { x with safe := l2 } { M with safe := S2 } → Chg (fun k => k = x.md) w1 W' → (∀ g, BlkL l2 g → BlkL l' g ∨ w1.heap.size ≤ g) → CrI w1 base b x M (pre ++ [⟨(c, p), hfd, hk2, hnm, hpd⟩]) W' := fun W' l2 S2 e h4 h5 h6 => by
      refine ⟨l2, ?_, h5, fun g hg => (h6 g hg).elim (fun h => hN9.out g h) .inr⟩
      have : foldF M.safe ((pre ++ [(⟨(c, p), hfd, hk2, hnm, hpd⟩ : YOf w1 base)]).map (·.1)) = S2 := by
        rw [e, hS, List.map_append, List.map_singleton, foldF_snoc]
      rw [this]
      exact h4
    have hmlen : (entF l').length < maxLen := by
      have h4 := hD.perms.length_eq
      have h5 := hOF.len
      dsimp only at h4
      simp only [mapL, List.length_map] at h4 ⊢
      unfold maxLen
      omega
    have cd : W.cell? ⟨db, 0, none⟩ = some (.pointer (some ⟨b, 0, none⟩)) := (hd1.chg hC (fun e => h1.maps.ne_blk hd1 e.symm)).cellAt rfl
    have c3 := hD.c3
    have x0 := hX.cellAt (i := 0) (v := .int .i64 c.kind) rfl
    have x1 := hX.cellAt (i := 1) (v := .string c.name) rfl
    have x2 := hX.cellAt (i := 2) (v := .int .i64 c.pos) rfl
    have x3 := hX.cellAt (i := 3) (v := c.d.v) rfl
    have hbs := fileOf_bs hD.perms hOF.srt c.name
    have hgs := get_abs hD.perms hOF.srt c.name
    have hes := getE_getL l' c.name
    dsimp only at c3 hbs hgs
    obtain ⟨f, hfo⟩ : ∃ f, f = fileOf l' c.name := ⟨_, rfl⟩
    have hfa : FileAt W base f.v f.bs := by rw [hfo]; exact fileOf_at hD.fils c.name
    have hfm : Hid (∀ g, f.at g → BlkL l' g) := Lib.hid (by
      intro g hg
      rw [hfo] at hg
      unfold fileOf at hg
      cases hgl : getL l' c.name with
      | none => rw [hgl] at hg; exact absurd hg none_at
      | some f2 => rw [hgl] at hg; exact ⟨_, getL_mem hgl, hg⟩)
    have hlk : (getE (entF l') c.name).getD (.slice none 0 0) = f.v := by rw [hfo]; exact fileOf_v l' c.name
    rw [← hfo] at hbs
    obtain ⟨in1, hin1⟩ : ∃ in1, in1 = (getL S c.name).isSome := ⟨_, rfl⟩
    have hi1 : (getE (entF l') c.name).isSome = in1 := by rw [hin1, hgs, hes]; simp
    obtain ⟨m, hm⟩ : ∃ m, m = f.bs.length := ⟨_, rfl⟩
    have hfv : f.v = .slice f.ao m f.cap := by rw [hm]; rfl
    rw [hfv] at hlk
    have hm30 : m ≤ 1073741824 := by rw [hm, hbs]; exact bytesOf_le (fun p hp => (hOF.fil p hp).2) _
    obtain ⟨dl, hdl⟩ : ∃ dl, dl = c.d.bs.length := ⟨_, rfl⟩
    have hpd2 : c.pos + dl ≤ 1073741824 := by rw [hdl]; exact hpd
    have hdv : c.d.v = .slice c.d.ao dl c.d.cap := by rw [hdl]; rfl
    rw [hdv] at x3
    have hfd2 := hfd
    have hcN : CM.name c.abs = c.name := rfl
    have hszW := hC.size
    have hMd := (hD.below (Below.refl _ _).drew).maps
    replace hgo := Lib.hid hgo
    replace hdl := Lib.hid hdl
    replace hm := Lib.hid hm
    replace hbs := Lib.hid hbs
    replace hin1 := Lib.hid hin1
    replace hOF := Lib.hid hOF
    clear hS hfo hgs hes hcN hdv hfv hst hzl hzs hlt hr hpk hpk1 hok hch
    gi_wp2
    refine round_region_tree _ (fun wx => wx.cell? ⟨db, 0, none⟩ = some (.pointer (some ⟨b, 0, none⟩)) ∧ wx.cell? ⟨b, 3, none⟩ = some (.map (some x.md)) ∧ wx.cell? ⟨Bx, 1, none⟩ = some (.string c.name)) 11 12 (by kernel_rfl) rfl (by kernel_rfl) (fun d _ _ _ _ h => by cases d <;> exact h) (fun h => by obtain ⟨a, w, h⟩ := h; exact h) (by kernel_rfl) (⟨cd, c3, x1⟩) (fun opz T hOps hT hTok hHeld => ?_)
    (refine wpTree_q 0 hTok hOps (by kernel_rfl) rfl rfl ⟨?_, ?_, ?_⟩; rotate_left; (focus (intro wx hSx; (try dsimp only at hSx); go_simp; (try with_reducible rfl))); (simp only [Act.put, List.setIfInBounds_toArray, List.set_cons_zero, List.set_cons_succ]))
    (refine wpTree_q 1 hTok hOps (by kernel_rfl) rfl rfl ⟨?_, ?_, ?_⟩; rotate_left; (focus (intro wx hSx; (try dsimp only at hSx); go_simp; (try with_reducible rfl))); (simp only [Act.put, List.setIfInBounds_toArray, List.set_cons_zero, List.set_cons_succ]))
    (refine wpTree_q 2 hTok hOps (by kernel_rfl) rfl rfl ⟨?_, ?_, ?_⟩; rotate_left; (focus (intro wx hSx; (try dsimp only at hSx); go_simp; (try with_reducible rfl))); (simp only [Act.put, List.setIfInBounds_toArray, List.set_cons_zero, List.set_cons_succ]))
    (refine wpTree_q 3 hTok hOps (by kernel_rfl) rfl rfl ⟨?_, ?_, ?_⟩; rotate_left; (focus (intro wx hSx; (try dsimp only at hSx); go_simp; (try with_reducible rfl))); (simp only [Act.put, List.setIfInBounds_toArray, List.set_cons_zero, List.set_cons_succ]))
    (refine wpTree_q 4 hTok hOps (by kernel_rfl) rfl rfl ⟨?_, ?_, ?_⟩; rotate_left; (focus (intro wx hSx; (try dsimp only at hSx); go_simp; (try with_reducible rfl))); (simp only [Act.put, List.setIfInBounds_toArray, List.set_cons_zero, List.set_cons_succ]))
    (refine wpTree_q 5 hTok hOps (by kernel_rfl) rfl rfl ⟨?_, ?_, ?_⟩; rotate_left; (focus (intro wx hSx; (try dsimp only at hSx); go_simp; (try with_reducible rfl))); (simp only [Act.put, List.setIfInBounds_toArray, List.set_cons_zero, List.set_cons_succ]))
    refine wpTree_1 6 hOps (by kernel_rfl) (by decide) rfl (fun K' hK => ?_)
    refine step_lookupL rfl _ _ _ _ rfl keyN hMd Try.underlying52 (zeroB _) (x := c.name) hs rfl rfl ?_
    simp only [if_true, hlk, hi1]
    refine hK.out _ _ ⟨cd, c3, x1⟩ ?_
    clear hK K'
    try simp only [Act.put, List.setIfInBounds_toArray, List.set_cons_zero, List.set_cons_succ]
    (refine wpTree_q 7 hTok hOps (by kernel_rfl) rfl rfl ⟨?_, ?_, ?_⟩; rotate_left; (focus (intro wx hSx; (try dsimp only at hSx); go_simp; (try with_reducible rfl))); (simp only [Act.put, List.setIfInBounds_toArray, List.set_cons_zero, List.set_cons_succ]))
    (refine wpTree_q 8 hTok hOps (by kernel_rfl) rfl rfl ⟨?_, ?_, ?_⟩; rotate_left; (focus (intro wx hSx; (try dsimp only at hSx); go_simp; (try with_reducible rfl))); (simp only [Act.put, List.setIfInBounds_toArray, List.set_cons_zero, List.set_cons_succ]))
    (refine wpTree_q 10 hTok hOps (by kernel_rfl) rfl rfl ⟨?_, ?_, ?_⟩; rotate_left; (focus (intro wx hSx; (try dsimp only at hSx); go_simp; (try with_reducible rfl))); (simp only [Act.put, List.setIfInBounds_toArray, List.set_cons_zero, List.set_cons_succ]))
    (refine wpTree_q 9 hTok hOps (by kernel_rfl) rfl rfl ⟨?_, ?_, ?_⟩; rotate_left; (focus (intro wx hSx; (try dsimp only at hSx); go_simp; (try with_reducible rfl))); (simp only [Act.put, List.setIfInBounds_toArray, List.set_cons_zero, List.set_cons_succ]))
    refine wpTree_nil hOps (by kernel_rfl) ?_
    refine hT.out _ _ ?_
    simp only [List.drop_succ_cons, List.drop_zero]
    clear hOps hT hTok hHeld
    clear hMd hlk hi1
    have hDd := hD.below ((Below.refl _ _).drew)
    have hbW : Below W.heap.size W W.drew := (Below.refl _ _).drew
    have hCd : Chg (fun k => k = x.md) w1 W.drew := hC.drew
    obtain ⟨W2, hW2⟩ : ∃ W2, W2 = W.drew := ⟨_, rfl⟩
    rw [← hW2] at hDd hbW hCd ⊢
    replace cd : W2.cell? ⟨db, 0, none⟩ = some (.pointer (some ⟨b, 0, none⟩)) := by rw [hW2]; exact cd
    replace c3 : W2.cell? ⟨b, 3, none⟩ = some (.map (some x.md)) := by rw [hW2]; exact c3
    replace x0 : W2.cell? ⟨Bx, 0, none⟩ = some (.int .i64 c.kind) := by rw [hW2]; exact x0
    replace x1 : W2.cell? ⟨Bx, 1, none⟩ = some (.string c.name) := by rw [hW2]; exact x1
    replace x2 : W2.cell? ⟨Bx, 2, none⟩ = some (.int .i64 c.pos) := by rw [hW2]; exact x2
    replace x3 : W2.cell? ⟨Bx, 3, none⟩ = some (.slice c.d.ao dl c.d.cap) := by rw [hW2]; exact x3
    clear hW2
    have hmdl := h1.maps.lt
    have hfdW : FileAt W base c.d.v c.d.bs := hfd.chg hC (fun k hk => h1.noU8 k (.inr (.inr (.inl hk))))
    have hidle : S = fallM S c.abs p → KeepsFrom w1.heap.size W W2 ∧ KpA W W2 ∧ CrI w1 base b x M (pre ++ [⟨(c, p), hfd, hk2, hnm, hpd⟩]) W2 := fun e => ⟨keepsFrom_below hbW, KpA.of_below hbW, hgo.out W2 l' S e hDd hCd (fun g h => .inl h)⟩
    have hturn : ∀ (W3 W4 : World) (l2 : List (ByteArray × FV)) (S2 : Files), Below W2.heap.size W2 W3 → Chg (fun k => k = x.md) W3 W4 → S2 = fallM S c.abs p → Dsk W4 base b { x with safe := l2 } { M with safe := S2 } → (∀ g, BlkL l2 g → BlkL l' g ∨ w1.heap.size ≤ g) →
        KeepsFrom w1.heap.size W W4 ∧ KpA W W4 ∧ CrI w1 base b x M (pre ++ [⟨(c, p), hfd, hk2, hnm, hpd⟩]) W4 := fun W3 W4 l2 S2 hb3 hc4 e hD4 hN4 => by
      have hbx := hbW.trans (hb3.mono hbW.size)
      refine ⟨⟨Nat.le_trans hbx.size hc4.size, fun k o hB hk _ => ?_⟩, (KpA.of_below hbx).trans (KpA.of_chg hc4 (fun k hk o ho => ?_)), hgo.out W4 l2 S2 e hD4 (hCd.trans (((Chg.of_below hb3).mono (fun k h1 h2 => by omega)).trans hc4)) hN4⟩
      · have hkl := (Array.getElem?_eq_some_iff.1 hk).1
        rw [hc4.block k (Nat.lt_of_lt_of_le hkl hbx.size) (fun e => by omega), hbx.block k hkl]
        exact hk
      · obtain ⟨ms, cl, hobj⟩ := (hDd.below hb3).maps.obj
        rw [hk] at ho
        dsimp only at hobj
        rw [hobj] at ho
        cases ho
        rfl
    have hab : fallM S c.abs p = if c.kind = 0 then (if min p dl = 0 ∨ m < c.pos then S else withL S c.name (overB f.bs c.pos (c.d.bs.take p))) else if p = 0 then S else if c.kind = 1 then (match getL S c.name with | some b => if c.pos < b.length then withL S c.name (b.take c.pos) else S | none => S) else withoutL S c.name := by
      unfold fallM CH.abs
      dsimp only
      rw [← hbs.out, ← hm.out, ← hdl.out]
      cases getL S c.name <;> rfl
    replace hidle := Lib.hid hidle
    replace hturn := Lib.hid hturn
    replace hab := Lib.hid hab
    clear hgo hC hD h h1 hd1 hd2 hd3 hX hmdl
    go_wp2_with fail
    rcases (by omega : c.kind = 0 ∨ c.kind = 1 ∨ c.kind = 2) with z0 | z0 | z0
    · have k0 : ((c.kind : Int) == 0) = true := by simp; omega
      have k1 : ((c.kind : Int) == 1) = false := by simp; omega
      have k2 : ((c.kind : Int) == 2) = false := by simp; omega
      have hab0 : fallM S c.abs p = if min p dl = 0 ∨ m < c.pos then S else withL S c.name (overB f.bs c.pos (c.d.bs.take p)) := by rw [hab.out, if_pos z0]
      replace hab0 := Lib.hid hab0
      clear z0 hab
      by_cases hA : dl < p
      · have hAi : (dl : Int) < (p : Int) := by omega
        by_cases hq : dl = 0
        · have q1 : decide ((0 : Int) < (dl : Int)) = false := by simp; omega
          have q2 : decide (0 < dl) = false := by simp; omega
          have hz := hidle.out (by rw [hab0.out, if_pos (.inl (by omega))])
          replace hz := Lib.hid hz
          clear hfa hfd2 hfdW hturn hidle
          try clear hin2 hgl
          try clear hfb
          try replace hq := Lib.hid hq
          gi_wp2
          exact hz.out
        · have q1 : decide ((0 : Int) < (dl : Int)) = true := by simp; omega
          have q2 : decide (0 < dl) = true := by simp; omega
          by_cases hle : c.pos ≤ m
          · have q3 : decide ((c.pos : Int) ≤ (m : Int)) = true := by simp; omega
            have hqc : Hid (dl ≤ c.d.cap) := Lib.hid (by have := (slaf (f := c.d) hfd).1; rw [← hdl.out] at this; omega)
            have htl : (c.d.bs.take dl).length = dl := by rw [List.length_take, ← hdl.out]; omega
            have htp : c.d.bs.take dl = c.d.bs.take p := (by rw [hdl.out, List.take_length, List.take_of_length_le (by rw [← hdl.out]; omega)])
            have hwr : ∀ wz, Below W2.heap.size W2 wz → Calls Try.prog 28 #[.slice f.ao m f.cap, .int .i64 c.pos, .slice c.d.ao dl c.d.cap] wz fun e w' => ∃ v, e = .returned v ∧ FileAt w' w1.heap.size v (overB f.bs c.pos (c.d.bs.take p)) ∧ Below wz.heap.size wz w' := fun wz hz => by
              have hbz := hbW.trans (hz.mono hbW.size)
              have hbw : w1.heap.size ≤ wz.heap.size := by have := hz.size; have := hbW.size; omega
              have := written_any f.ao c.d.ao f.cap c.d.cap c.pos f.bs (c.d.bs.take dl) wz w1.heap.size hbw (slaf (hfa.below hbz (Nat.le_refl _))) (slaTake (slaf (hfdW.below hbz (Nat.le_refl _))) dl) (by rw [← hm.out]; exact hle) (by rw [htl]; omega) (by rw [← hm.out]; omega)
              rw [htl, ← hm.out, htp] at this
              exact this
            replace hwr := Lib.hid hwr
            replace htl := Lib.hid htl
            replace htp := Lib.hid htp
            clear hfa hfd2 hfdW
            gi_wp2
            refine round_region_tree _ (fun wx => wx.cell? ⟨db, 0, none⟩ = some (.pointer (some ⟨b, 0, none⟩)) ∧ wx.cell? ⟨b, 3, none⟩ = some (.map (some x.md)) ∧ wx.cell? ⟨Bx, 1, none⟩ = some (.string c.name) ∧ wx.cell? ⟨Bx, 2, none⟩ = some (.int .i64 c.pos) ∧ wx.cell? ⟨Bx, 3, none⟩ = some (.slice c.d.ao dl c.d.cap)) 18 19 (by kernel_rfl) rfl (by kernel_rfl) (fun d _ _ _ _ h => by cases d <;> exact h) (fun h => by obtain ⟨a, w, h⟩ := h; exact h) (by kernel_rfl) (⟨cd, c3, x1, x2, x3⟩) (fun opz T hOps hT hTok hHeld => ?_)
            (refine wpTree_q 0 hTok hOps (by kernel_rfl) rfl rfl ⟨?_, ?_, ?_⟩; rotate_left; (focus (intro wx hSx; (try dsimp only at hSx); go_simp; (try with_reducible rfl))); (simp only [Act.put, List.setIfInBounds_toArray, List.set_cons_zero, List.set_cons_succ]))
            (refine wpTree_q 1 hTok hOps (by kernel_rfl) rfl rfl ⟨?_, ?_, ?_⟩; rotate_left; (focus (intro wx hSx; (try dsimp only at hSx); go_simp; (try with_reducible rfl))); (simp only [Act.put, List.setIfInBounds_toArray, List.set_cons_zero, List.set_cons_succ]))
            (refine wpTree_q 2 hTok hOps (by kernel_rfl) rfl rfl ⟨?_, ?_, ?_⟩; rotate_left; (focus (intro wx hSx; (try dsimp only at hSx); go_simp; (try with_reducible rfl))); (simp only [Act.put, List.setIfInBounds_toArray, List.set_cons_zero, List.set_cons_succ]))
            (refine wpTree_q 3 hTok hOps (by kernel_rfl) rfl rfl ⟨?_, ?_, ?_⟩; rotate_left; (focus (intro wx hSx; (try dsimp only at hSx); go_simp; (try with_reducible rfl))); (simp only [Act.put, List.setIfInBounds_toArray, List.set_cons_zero, List.set_cons_succ]))
            (refine wpTree_q 4 hTok hOps (by kernel_rfl) rfl rfl ⟨?_, ?_, ?_⟩; rotate_left; (focus (intro wx hSx; (try dsimp only at hSx); go_simp; (try with_reducible rfl))); (simp only [Act.put, List.setIfInBounds_toArray, List.set_cons_zero, List.set_cons_succ]))
            (refine wpTree_q 5 hTok hOps (by kernel_rfl) rfl rfl ⟨?_, ?_, ?_⟩; rotate_left; (focus (intro wx hSx; (try dsimp only at hSx); go_simp; (try with_reducible rfl))); (simp only [Act.put, List.setIfInBounds_toArray, List.set_cons_zero, List.set_cons_succ]))
            (refine wpTree_q 6 hTok hOps (by kernel_rfl) rfl rfl ⟨?_, ?_, ?_⟩; rotate_left; (focus (intro wx hSx; (try dsimp only at hSx); go_simp; (try with_reducible rfl))); (simp only [Act.put, List.setIfInBounds_toArray, List.set_cons_zero, List.set_cons_succ]))
            (refine wpTree_q 7 hTok hOps (by kernel_rfl) rfl rfl ⟨?_, ?_, ?_⟩; rotate_left; (focus (intro wx hSx; (try dsimp only at hSx); go_simp; (try with_reducible rfl))); (simp only [Act.put, List.setIfInBounds_toArray, List.set_cons_zero, List.set_cons_succ]))
            (refine wpTree_q 8 hTok hOps (by kernel_rfl) rfl rfl ⟨?_, ?_, ?_⟩; rotate_left; (focus (intro wx hSx; (try dsimp only at hSx); go_simp; (try with_reducible rfl))); (simp only [Act.put, List.setIfInBounds_toArray, List.set_cons_zero, List.set_cons_succ]))
            (refine wpTree_q 9 hTok hOps (by kernel_rfl) rfl rfl ⟨?_, ?_, ?_⟩; rotate_left; (focus (intro wx hSx; (try dsimp only at hSx); go_simp; (try with_reducible rfl))); (simp only [Act.put, List.setIfInBounds_toArray, List.set_cons_zero, List.set_cons_succ]))
            (refine wpTree_q 10 hTok hOps (by kernel_rfl) rfl rfl ⟨?_, ?_, ?_⟩; rotate_left; (focus (intro wx hSx; (try dsimp only at hSx); go_simp; (try with_reducible rfl))); (simp only [Act.put, List.setIfInBounds_toArray, List.set_cons_zero, List.set_cons_succ]))
            (refine wpTree_q 11 hTok hOps (by kernel_rfl) rfl rfl ⟨?_, ?_, ?_⟩; rotate_left; (focus (intro wx hSx; (try dsimp only at hSx); go_simp; (try with_reducible rfl))); (simp only [Act.put, List.setIfInBounds_toArray, List.set_cons_zero, List.set_cons_succ]))
            (refine wpTree_q 12 hTok hOps (by kernel_rfl) rfl rfl ⟨?_, ?_, ?_⟩; rotate_left; (focus (intro wx hSx; (try dsimp only at hSx); go_simp; (try with_reducible rfl))); (simp only [Act.put, List.setIfInBounds_toArray, List.set_cons_zero, List.set_cons_succ]))
            (refine wpTree_q 13 hTok hOps (by kernel_rfl) rfl rfl ⟨?_, ?_, ?_⟩; rotate_left; (focus (intro wx hSx; (try dsimp only at hSx); go_simp; (try with_reducible rfl))); (simp only [Act.put, List.setIfInBounds_toArray, List.set_cons_zero, List.set_cons_succ]))
            (refine wpTree_q 14 hTok hOps (by kernel_rfl) rfl rfl ⟨?_, ?_, ?_⟩; rotate_left; (focus (intro wx hSx; (try dsimp only at hSx); go_simp; (try with_reducible rfl))); (simp only [Act.put, List.setIfInBounds_toArray, List.set_cons_zero, List.set_cons_succ]))
            (refine wpTree_q 15 hTok hOps (by kernel_rfl) rfl rfl ⟨?_, ?_, ?_⟩; rotate_left; (focus (intro wx hSx; (try dsimp only at hSx); go_simp; (try with_reducible rfl))); (simp only [Act.put, List.setIfInBounds_toArray, List.set_cons_zero, List.set_cons_succ]))
            (refine wpTree_qg 16 hTok hOps (by kernel_rfl) rfl rfl ⟨?_, ?_, ?_⟩; rotate_left; (focus (intro wx hSx; (try dsimp only at hSx); go_simp; rw [if_pos hqc.out])); (simp only [Act.put, List.setIfInBounds_toArray, List.set_cons_zero, List.set_cons_succ]))
            refine wpTree_1 17 hOps (by kernel_rfl) (by decide) rfl (fun K' hK => ?_)
            go_simp
            refine (hwr.out _ (Below.refl _ _).drew).mono ?_
            rintro e W3 ⟨v3, rfl, hf3, hb3⟩
            have hb3' : Below W2.heap.size W2 W3 := ((Below.refl _ _).drew).trans (hb3.mono (Nat.le_refl _))
            have hD3 := hDd.below hb3'
            obtain ⟨f3, rfl, hf3b⟩ := hf3.fv
            rw [← hf3b] at hf3
            have hn3 := Lib.hid hf3.new
            replace hf3 := hf3.base_le (base' := base) (by have := hb1.size; omega)
            have hM3 := hD3.maps
            dsimp only
            refine hK.out _ _ ⟨(hb3'.cell (p := ⟨db, 0, none⟩) (World.lt_of_cell cd)).trans cd, (hb3'.cell (p := ⟨b, 3, none⟩) (World.lt_of_cell c3)).trans c3, (hb3'.cell (p := ⟨Bx, 1, none⟩) (World.lt_of_cell x1)).trans x1, (hb3'.cell (p := ⟨Bx, 2, none⟩) (World.lt_of_cell x2)).trans x2, (hb3'.cell (p := ⟨Bx, 3, none⟩) (World.lt_of_cell x3)).trans x3⟩ ?_
            clear hK K'
            try simp only [Act.put, List.setIfInBounds_toArray, List.set_cons_zero, List.set_cons_succ]
            refine wpTree_nil hOps (by kernel_rfl) ?_
            refine hT.out _ _ ?_
            simp only [List.drop_succ_cons, List.drop_zero]
            clear hOps hT hTok hHeld
            refine wpList_updateL rfl _ _ _ _ rfl keyN hM3 Try.underlying52 hmlen (x := c.name) hs rfl rfl ?_
            intro W4 hM4 hc4
            have hM4' : MapL Try.prog 9 klT wfT W4 x.md (entF ((c.name, f3) :: withoutL l' c.name)) := by rw [← Dsk.set_ent]; exact hM4
            have hD4 := hD3.turnSafe hM4' hc4 (Dsk.fil_with hD3.fils hf3 c.name) (Dsk.perm_with hD3.perms c.name f3)
            have hfin := hturn.out W3 W4 _ _ hb3' hc4 (by rw [hf3b, hab0.out, if_neg (by omega)]) hD4 (fun g h => (BlkL.cons h).elim (fun h => .inr (hn3.out g h)) (fun h => .inl (BlkL.without h)))
            replace hfin := Lib.hid hfin
            clear hD4 hM4 hM4' hM3 hD3 hc4 hb3 hb3' hf3 hwr cd c3 x0 x1 x2 x3 hDd hCd hbW hidle hturn
            try simp only [Act.put]
            go_wp2_with fail
            gi_wp2
            exact hfin.out
          · have q3 : decide ((c.pos : Int) ≤ (m : Int)) = false := by simp; omega
            have hz := hidle.out (by rw [hab0.out, if_pos (.inr (by omega))])
            replace hz := Lib.hid hz
            clear hfa hfd2 hfdW hturn hidle
            try clear hin2 hgl
            try clear hfb
            try replace hq := Lib.hid hq
            gi_wp2
            exact hz.out
      · have hAi : ¬ (dl : Int) < (p : Int) := by omega
        by_cases hq : p = 0
        · have q1 : decide ((0 : Int) < (p : Int)) = false := by simp; omega
          have q2 : decide (0 < p) = false := by simp; omega
          have hz := hidle.out (by rw [hab0.out, if_pos (.inl (by omega))])
          replace hz := Lib.hid hz
          clear hfa hfd2 hfdW hturn hidle
          try clear hin2 hgl
          try clear hfb
          try replace hq := Lib.hid hq
          gi_wp2
          exact hz.out
        · have q1 : decide ((0 : Int) < (p : Int)) = true := by simp; omega
          have q2 : decide (0 < p) = true := by simp; omega
          by_cases hle : c.pos ≤ m
          · have q3 : decide ((c.pos : Int) ≤ (m : Int)) = true := by simp; omega
            have hqc : Hid (p ≤ c.d.cap) := Lib.hid (by have := (slaf (f := c.d) hfd).1; rw [← hdl.out] at this; omega)
            have htl : (c.d.bs.take p).length = p := by rw [List.length_take, ← hdl.out]; omega
            have htp : c.d.bs.take p = c.d.bs.take p := rfl
            have hwr : ∀ wz, Below W2.heap.size W2 wz → Calls Try.prog 28 #[.slice f.ao m f.cap, .int .i64 c.pos, .slice c.d.ao p c.d.cap] wz fun e w' => ∃ v, e = .returned v ∧ FileAt w' w1.heap.size v (overB f.bs c.pos (c.d.bs.take p)) ∧ Below wz.heap.size wz w' := fun wz hz => by
              have hbz := hbW.trans (hz.mono hbW.size)
              have hbw : w1.heap.size ≤ wz.heap.size := by have := hz.size; have := hbW.size; omega
              have := written_any f.ao c.d.ao f.cap c.d.cap c.pos f.bs (c.d.bs.take p) wz w1.heap.size hbw (slaf (hfa.below hbz (Nat.le_refl _))) (slaTake (slaf (hfdW.below hbz (Nat.le_refl _))) p) (by rw [← hm.out]; exact hle) (by rw [htl]; omega) (by rw [← hm.out]; omega)
              rw [htl, ← hm.out, htp] at this
              exact this
            replace hwr := Lib.hid hwr
            replace htl := Lib.hid htl
            replace htp := Lib.hid htp
            clear hfa hfd2 hfdW
            gi_wp2
            refine round_region_tree _ (fun wx => wx.cell? ⟨db, 0, none⟩ = some (.pointer (some ⟨b, 0, none⟩)) ∧ wx.cell? ⟨b, 3, none⟩ = some (.map (some x.md)) ∧ wx.cell? ⟨Bx, 1, none⟩ = some (.string c.name) ∧ wx.cell? ⟨Bx, 2, none⟩ = some (.int .i64 c.pos) ∧ wx.cell? ⟨Bx, 3, none⟩ = some (.slice c.d.ao dl c.d.cap)) 18 19 (by kernel_rfl) rfl (by kernel_rfl) (fun d _ _ _ _ h => by cases d <;> exact h) (fun h => by obtain ⟨a, w, h⟩ := h; exact h) (by kernel_rfl) (⟨cd, c3, x1, x2, x3⟩) (fun opz T hOps hT hTok hHeld => ?_)
            (refine wpTree_q 0 hTok hOps (by kernel_rfl) rfl rfl ⟨?_, ?_, ?_⟩; rotate_left; (focus (intro wx hSx; (try dsimp only at hSx); go_simp; (try with_reducible rfl))); (simp only [Act.put, List.setIfInBounds_toArray, List.set_cons_zero, List.set_cons_succ]))
            (refine wpTree_q 1 hTok hOps (by kernel_rfl) rfl rfl ⟨?_, ?_, ?_⟩; rotate_left; (focus (intro wx hSx; (try dsimp only at hSx); go_simp; (try with_reducible rfl))); (simp only [Act.put, List.setIfInBounds_toArray, List.set_cons_zero, List.set_cons_succ]))
            (refine wpTree_q 2 hTok hOps (by kernel_rfl) rfl rfl ⟨?_, ?_, ?_⟩; rotate_left; (focus (intro wx hSx; (try dsimp only at hSx); go_simp; (try with_reducible rfl))); (simp only [Act.put, List.setIfInBounds_toArray, List.set_cons_zero, List.set_cons_succ]))
            (refine wpTree_q 3 hTok hOps (by kernel_rfl) rfl rfl ⟨?_, ?_, ?_⟩; rotate_left; (focus (intro wx hSx; (try dsimp only at hSx); go_simp; (try with_reducible rfl))); (simp only [Act.put, List.setIfInBounds_toArray, List.set_cons_zero, List.set_cons_succ]))
            (refine wpTree_q 4 hTok hOps (by kernel_rfl) rfl rfl ⟨?_, ?_, ?_⟩; rotate_left; (focus (intro wx hSx; (try dsimp only at hSx); go_simp; (try with_reducible rfl))); (simp only [Act.put, List.setIfInBounds_toArray, List.set_cons_zero, List.set_cons_succ]))
            (refine wpTree_q 5 hTok hOps (by kernel_rfl) rfl rfl ⟨?_, ?_, ?_⟩; rotate_left; (focus (intro wx hSx; (try dsimp only at hSx); go_simp; (try with_reducible rfl))); (simp only [Act.put, List.setIfInBounds_toArray, List.set_cons_zero, List.set_cons_succ]))
            (refine wpTree_q 6 hTok hOps (by kernel_rfl) rfl rfl ⟨?_, ?_, ?_⟩; rotate_left; (focus (intro wx hSx; (try dsimp only at hSx); go_simp; (try with_reducible rfl))); (simp only [Act.put, List.setIfInBounds_toArray, List.set_cons_zero, List.set_cons_succ]))
            (refine wpTree_q 7 hTok hOps (by kernel_rfl) rfl rfl ⟨?_, ?_, ?_⟩; rotate_left; (focus (intro wx hSx; (try dsimp only at hSx); go_simp; (try with_reducible rfl))); (simp only [Act.put, List.setIfInBounds_toArray, List.set_cons_zero, List.set_cons_succ]))
            (refine wpTree_q 8 hTok hOps (by kernel_rfl) rfl rfl ⟨?_, ?_, ?_⟩; rotate_left; (focus (intro wx hSx; (try dsimp only at hSx); go_simp; (try with_reducible rfl))); (simp only [Act.put, List.setIfInBounds_toArray, List.set_cons_zero, List.set_cons_succ]))
            (refine wpTree_q 9 hTok hOps (by kernel_rfl) rfl rfl ⟨?_, ?_, ?_⟩; rotate_left; (focus (intro wx hSx; (try dsimp only at hSx); go_simp; (try with_reducible rfl))); (simp only [Act.put, List.setIfInBounds_toArray, List.set_cons_zero, List.set_cons_succ]))
            (refine wpTree_q 10 hTok hOps (by kernel_rfl) rfl rfl ⟨?_, ?_, ?_⟩; rotate_left; (focus (intro wx hSx; (try dsimp only at hSx); go_simp; (try with_reducible rfl))); (simp only [Act.put, List.setIfInBounds_toArray, List.set_cons_zero, List.set_cons_succ]))
            (refine wpTree_q 11 hTok hOps (by kernel_rfl) rfl rfl ⟨?_, ?_, ?_⟩; rotate_left; (focus (intro wx hSx; (try dsimp only at hSx); go_simp; (try with_reducible rfl))); (simp only [Act.put, List.setIfInBounds_toArray, List.set_cons_zero, List.set_cons_succ]))
            (refine wpTree_q 12 hTok hOps (by kernel_rfl) rfl rfl ⟨?_, ?_, ?_⟩; rotate_left; (focus (intro wx hSx; (try dsimp only at hSx); go_simp; (try with_reducible rfl))); (simp only [Act.put, List.setIfInBounds_toArray, List.set_cons_zero, List.set_cons_succ]))
            (refine wpTree_q 13 hTok hOps (by kernel_rfl) rfl rfl ⟨?_, ?_, ?_⟩; rotate_left; (focus (intro wx hSx; (try dsimp only at hSx); go_simp; (try with_reducible rfl))); (simp only [Act.put, List.setIfInBounds_toArray, List.set_cons_zero, List.set_cons_succ]))
            (refine wpTree_q 14 hTok hOps (by kernel_rfl) rfl rfl ⟨?_, ?_, ?_⟩; rotate_left; (focus (intro wx hSx; (try dsimp only at hSx); go_simp; (try with_reducible rfl))); (simp only [Act.put, List.setIfInBounds_toArray, List.set_cons_zero, List.set_cons_succ]))
            (refine wpTree_q 15 hTok hOps (by kernel_rfl) rfl rfl ⟨?_, ?_, ?_⟩; rotate_left; (focus (intro wx hSx; (try dsimp only at hSx); go_simp; (try with_reducible rfl))); (simp only [Act.put, List.setIfInBounds_toArray, List.set_cons_zero, List.set_cons_succ]))
            (refine wpTree_qg 16 hTok hOps (by kernel_rfl) rfl rfl ⟨?_, ?_, ?_⟩; rotate_left; (focus (intro wx hSx; (try dsimp only at hSx); go_simp; rw [if_pos hqc.out])); (simp only [Act.put, List.setIfInBounds_toArray, List.set_cons_zero, List.set_cons_succ]))
            refine wpTree_1 17 hOps (by kernel_rfl) (by decide) rfl (fun K' hK => ?_)
            go_simp
            refine (hwr.out _ (Below.refl _ _).drew).mono ?_
            rintro e W3 ⟨v3, rfl, hf3, hb3⟩
            have hb3' : Below W2.heap.size W2 W3 := ((Below.refl _ _).drew).trans (hb3.mono (Nat.le_refl _))
            have hD3 := hDd.below hb3'
            obtain ⟨f3, rfl, hf3b⟩ := hf3.fv
            rw [← hf3b] at hf3
            have hn3 := Lib.hid hf3.new
            replace hf3 := hf3.base_le (base' := base) (by have := hb1.size; omega)
            have hM3 := hD3.maps
            dsimp only
            refine hK.out _ _ ⟨(hb3'.cell (p := ⟨db, 0, none⟩) (World.lt_of_cell cd)).trans cd, (hb3'.cell (p := ⟨b, 3, none⟩) (World.lt_of_cell c3)).trans c3, (hb3'.cell (p := ⟨Bx, 1, none⟩) (World.lt_of_cell x1)).trans x1, (hb3'.cell (p := ⟨Bx, 2, none⟩) (World.lt_of_cell x2)).trans x2, (hb3'.cell (p := ⟨Bx, 3, none⟩) (World.lt_of_cell x3)).trans x3⟩ ?_
            clear hK K'
            try simp only [Act.put, List.setIfInBounds_toArray, List.set_cons_zero, List.set_cons_succ]
            refine wpTree_nil hOps (by kernel_rfl) ?_
            refine hT.out _ _ ?_
            simp only [List.drop_succ_cons, List.drop_zero]
            clear hOps hT hTok hHeld
            refine wpList_updateL rfl _ _ _ _ rfl keyN hM3 Try.underlying52 hmlen (x := c.name) hs rfl rfl ?_
            intro W4 hM4 hc4
            have hM4' : MapL Try.prog 9 klT wfT W4 x.md (entF ((c.name, f3) :: withoutL l' c.name)) := by rw [← Dsk.set_ent]; exact hM4
            have hD4 := hD3.turnSafe hM4' hc4 (Dsk.fil_with hD3.fils hf3 c.name) (Dsk.perm_with hD3.perms c.name f3)
            have hfin := hturn.out W3 W4 _ _ hb3' hc4 (by rw [hf3b, hab0.out, if_neg (by omega)]) hD4 (fun g h => (BlkL.cons h).elim (fun h => .inr (hn3.out g h)) (fun h => .inl (BlkL.without h)))
            replace hfin := Lib.hid hfin
            clear hD4 hM4 hM4' hM3 hD3 hc4 hb3 hb3' hf3 hwr cd c3 x0 x1 x2 x3 hDd hCd hbW hidle hturn
            try simp only [Act.put]
            go_wp2_with fail
            gi_wp2
            exact hfin.out
          · have q3 : decide ((c.pos : Int) ≤ (m : Int)) = false := by simp; omega
            have hz := hidle.out (by rw [hab0.out, if_pos (.inr (by omega))])
            replace hz := Lib.hid hz
            clear hfa hfd2 hfdW hturn hidle
            try clear hin2 hgl
            try clear hfb
            try replace hq := Lib.hid hq
            gi_wp2
            exact hz.out
    · have k0 : ((c.kind : Int) == 0) = false := by simp; omega
      have k1 : ((c.kind : Int) == 1) = true := by simp; omega
      have k2 : ((c.kind : Int) == 2) = false := by simp; omega
      have hab0 : fallM S c.abs p = if p = 0 then S else (match getL S c.name with | some b => if c.pos < b.length then withL S c.name (b.take c.pos) else S | none => S) := by
        rw [hab.out, if_neg (by omega), if_pos z0]
      replace hab0 := Lib.hid hab0
      clear z0 hab
      by_cases hq : p = 0
      · have q1 : decide ((0 : Int) < (p : Int)) = false := by simp; omega
        have q2 : decide (0 < p) = false := by simp; omega
        have hz := hidle.out (by rw [hab0.out, if_pos hq])
        replace hz := Lib.hid hz
        clear hfa hfd2 hfdW hturn hidle
        try clear hin2 hgl
        try clear hfb
        try replace hq := Lib.hid hq
        gi_wp2
        exact hz.out
      · have q1 : decide ((0 : Int) < (p : Int)) = true := by simp; omega
        have q2 : decide (0 < p) = true := by simp; omega
        have hin2 := hin1.out
        cases hgl : getL S c.name with
        | none =>
          obtain rfl : in1 = false := by rw [hin2, hgl]; rfl
          have hz := hidle.out (by rw [hab0.out, if_neg hq, hgl])
          replace hz := Lib.hid hz
          clear hfa hfd2 hfdW hturn hidle
          try clear hin2 hgl
          try clear hfb
          try replace hq := Lib.hid hq
          gi_wp2
          exact hz.out
        | some bb =>
          obtain rfl : in1 = true := by rw [hin2, hgl]; rfl
          have hfb : f.bs = bb := by rw [hbs.out]; unfold bytesOf; rw [hgl]; rfl
          by_cases hle : c.pos < m
          · have q3 : decide ((c.pos : Int) < (m : Int)) = true := by simp; omega
            have q4 : decide (c.pos < m) = true := by simp; omega
            have hqc : Hid (c.pos ≤ f.cap) := Lib.hid (by have := (slaf hfa).1; rw [← hm.out] at this; omega)
            have hS2 : withL S c.name (f.bs.take c.pos) = fallM S c.abs p := by
              rw [hab0.out, if_neg hq, hgl]
              dsimp only
              rw [if_pos (by rw [← hfb, ← hm.out]; exact hle), hfb]
            have hf3 : ∀ wz, Below W2.heap.size W2 wz → FileAt wz base (.slice f.ao c.pos c.pos) (f.bs.take c.pos) := fun wz hz => ((hfa.below (hbW.trans (hz.mono hbW.size)) (Nat.le_refl _))).cut (by rw [← hm.out]; exact hle)
            have hv3 : Value.slice f.ao c.pos c.pos = FV.v ⟨f.ao, c.pos, f.bs.take c.pos⟩ := by
              unfold FV.v
              rw [List.length_take, ← hm.out, Nat.min_eq_left (Nat.le_of_lt hle)]
            replace hS2 := Lib.hid hS2
            replace hf3 := Lib.hid hf3
            replace hv3 := Lib.hid hv3
            clear hfa hfd2 hfdW hgl hin2 hfb
            gi_wp2
            refine round_region_tree _ (fun wx => wx.cell? ⟨db, 0, none⟩ = some (.pointer (some ⟨b, 0, none⟩)) ∧ wx.cell? ⟨b, 3, none⟩ = some (.map (some x.md)) ∧ wx.cell? ⟨Bx, 1, none⟩ = some (.string c.name) ∧ wx.cell? ⟨Bx, 2, none⟩ = some (.int .i64 c.pos)) 12 13 (by kernel_rfl) rfl (by kernel_rfl) (fun d _ _ _ _ h => by cases d <;> exact h) (fun h => by obtain ⟨a, w, h⟩ := h; exact h) (by kernel_rfl) (⟨cd, c3, x1, x2⟩) (fun opz T hOps hT hTok hHeld => ?_)
            (refine wpTree_q 0 hTok hOps (by kernel_rfl) rfl rfl ⟨?_, ?_, ?_⟩; rotate_left; (focus (intro wx hSx; (try dsimp only at hSx); go_simp; (try with_reducible rfl))); (simp only [Act.put, List.setIfInBounds_toArray, List.set_cons_zero, List.set_cons_succ]))
            (refine wpTree_q 1 hTok hOps (by kernel_rfl) rfl rfl ⟨?_, ?_, ?_⟩; rotate_left; (focus (intro wx hSx; (try dsimp only at hSx); go_simp; (try with_reducible rfl))); (simp only [Act.put, List.setIfInBounds_toArray, List.set_cons_zero, List.set_cons_succ]))
            (refine wpTree_q 2 hTok hOps (by kernel_rfl) rfl rfl ⟨?_, ?_, ?_⟩; rotate_left; (focus (intro wx hSx; (try dsimp only at hSx); go_simp; (try with_reducible rfl))); (simp only [Act.put, List.setIfInBounds_toArray, List.set_cons_zero, List.set_cons_succ]))
            (refine wpTree_q 3 hTok hOps (by kernel_rfl) rfl rfl ⟨?_, ?_, ?_⟩; rotate_left; (focus (intro wx hSx; (try dsimp only at hSx); go_simp; (try with_reducible rfl))); (simp only [Act.put, List.setIfInBounds_toArray, List.set_cons_zero, List.set_cons_succ]))
            (refine wpTree_q 4 hTok hOps (by kernel_rfl) rfl rfl ⟨?_, ?_, ?_⟩; rotate_left; (focus (intro wx hSx; (try dsimp only at hSx); go_simp; (try with_reducible rfl))); (simp only [Act.put, List.setIfInBounds_toArray, List.set_cons_zero, List.set_cons_succ]))
            (refine wpTree_q 5 hTok hOps (by kernel_rfl) rfl rfl ⟨?_, ?_, ?_⟩; rotate_left; (focus (intro wx hSx; (try dsimp only at hSx); go_simp; (try with_reducible rfl))); (simp only [Act.put, List.setIfInBounds_toArray, List.set_cons_zero, List.set_cons_succ]))
            (refine wpTree_q 6 hTok hOps (by kernel_rfl) rfl rfl ⟨?_, ?_, ?_⟩; rotate_left; (focus (intro wx hSx; (try dsimp only at hSx); go_simp; (try with_reducible rfl))); (simp only [Act.put, List.setIfInBounds_toArray, List.set_cons_zero, List.set_cons_succ]))
            (refine wpTree_q 7 hTok hOps (by kernel_rfl) rfl rfl ⟨?_, ?_, ?_⟩; rotate_left; (focus (intro wx hSx; (try dsimp only at hSx); go_simp; (try with_reducible rfl))); (simp only [Act.put, List.setIfInBounds_toArray, List.set_cons_zero, List.set_cons_succ]))
            (refine wpTree_q 8 hTok hOps (by kernel_rfl) rfl rfl ⟨?_, ?_, ?_⟩; rotate_left; (focus (intro wx hSx; (try dsimp only at hSx); go_simp; (try with_reducible rfl))); (simp only [Act.put, List.setIfInBounds_toArray, List.set_cons_zero, List.set_cons_succ]))
            (refine wpTree_q 9 hTok hOps (by kernel_rfl) rfl rfl ⟨?_, ?_, ?_⟩; rotate_left; (focus (intro wx hSx; (try dsimp only at hSx); go_simp; (try with_reducible rfl))); (simp only [Act.put, List.setIfInBounds_toArray, List.set_cons_zero, List.set_cons_succ]))
            (refine wpTree_q 10 hTok hOps (by kernel_rfl) rfl rfl ⟨?_, ?_, ?_⟩; rotate_left; (focus (intro wx hSx; (try dsimp only at hSx); go_simp; (try with_reducible rfl))); (simp only [Act.put, List.setIfInBounds_toArray, List.set_cons_zero, List.set_cons_succ]))
            (refine wpTree_qg 11 hTok hOps (by kernel_rfl) rfl rfl ⟨?_, ?_, ?_⟩; rotate_left; (focus (intro wx hSx; (try dsimp only at hSx); go_simp; rw [if_pos hqc.out])); (simp only [Act.put, List.setIfInBounds_toArray, List.set_cons_zero, List.set_cons_succ]))
            refine wpTree_nil hOps (by kernel_rfl) ?_
            refine hT.out _ _ ?_
            simp only [List.drop_succ_cons, List.drop_zero]
            clear hOps hT hTok hHeld
            have hb3' : Below W2.heap.size W2 W2.drew := (Below.refl _ _).drew
            have hD3 := hDd.below hb3'
            have hM3 := hD3.maps
            refine wpList_updateL rfl _ _ _ _ rfl keyN hM3 Try.underlying52 hmlen (x := c.name) hs rfl rfl ?_
            intro W4 hM4 hc4
            have hM4' : MapL Try.prog 9 klT wfT W4 x.md (entF ((c.name, ⟨f.ao, c.pos, f.bs.take c.pos⟩) :: withoutL l' c.name)) := by rw [← Dsk.set_ent, ← hv3.out]; exact hM4
            have hf4 := hf3.out _ hb3'
            rw [hv3.out] at hf4
            have hD4 := hD3.turnSafe hM4' hc4 (Dsk.fil_with (f := ⟨f.ao, c.pos, f.bs.take c.pos⟩) hD3.fils hf4 c.name) (Dsk.perm_with hD3.perms c.name ⟨f.ao, c.pos, f.bs.take c.pos⟩)
            have hfin := hturn.out W2.drew W4 _ _ hb3' hc4 hS2.out hD4 (fun g h => (BlkL.cons h).elim (fun h => .inl (hfm.out g ⟨fun hz => h.1 (by show c.pos = 0; have := hqc.out; omega), h.2⟩)) (fun h => .inl (BlkL.without h)))
            replace hfin := Lib.hid hfin
            clear hD4 hM4 hM4' hM3 hD3 hc4 hb3' hf4 hf3 cd c3 x0 x1 x2 x3 hDd hCd hbW hidle hturn
            try simp only [Act.put]
            go_wp2_with fail
            gi_wp2
            exact hfin.out
          · have q3 : decide ((c.pos : Int) < (m : Int)) = false := by simp; omega
            have q4 : decide (c.pos < m) = false := by simp; omega
            have hz := hidle.out (by rw [hab0.out, if_neg hq, hgl]; dsimp only; rw [if_neg (by rw [← hfb, ← hm.out]; exact hle)])
            replace hz := Lib.hid hz
            clear hfa hfd2 hfdW hturn hidle
            try clear hin2 hgl
            try clear hfb
            try replace hq := Lib.hid hq
            gi_wp2
            exact hz.out
    · have k0 : ((c.kind : Int) == 0) = false := by simp; omega
      have k1 : ((c.kind : Int) == 1) = false := by simp; omega
      have k2 : ((c.kind : Int) == 2) = true := by simp; omega
      have hab0 : fallM S c.abs p = if p = 0 then S else withoutL S c.name := by
        rw [hab.out, if_neg (by omega)]
        by_cases hq : p = 0
        · rw [if_pos hq, if_pos hq]
        · rw [if_neg hq, if_neg hq, if_neg (by omega)]
      replace hab0 := Lib.hid hab0
      clear z0 hab
      by_cases hq : p = 0
      · have q1 : decide ((0 : Int) < (p : Int)) = false := by simp; omega
        have q2 : decide (0 < p) = false := by simp; omega
        have hz := hidle.out (by rw [hab0.out, if_pos hq])
        replace hz := Lib.hid hz
        clear hfa hfd2 hfdW hturn hidle
        try clear hin2 hgl
        try clear hfb
        try replace hq := Lib.hid hq
        gi_wp2
        exact hz.out
      · have q1 : decide ((0 : Int) < (p : Int)) = true := by simp; omega
        have q2 : decide (0 < p) = true := by simp; omega
        have hS2 : withoutL S c.name = fallM S c.abs p := by rw [hab0.out, if_neg hq]
        replace hS2 := Lib.hid hS2
        clear hfa hfd2 hfdW
        gi_wp2
        refine round_region_tree _ (fun wx => wx.cell? ⟨db, 0, none⟩ = some (.pointer (some ⟨b, 0, none⟩)) ∧ wx.cell? ⟨b, 3, none⟩ = some (.map (some x.md)) ∧ wx.cell? ⟨Bx, 1, none⟩ = some (.string c.name)) 6 7 (by kernel_rfl) rfl (by kernel_rfl) (fun d _ _ _ _ h => by cases d <;> exact h) (fun h => by obtain ⟨a, w, h⟩ := h; exact h) (by kernel_rfl) (⟨cd, c3, x1⟩) (fun opz T hOps hT hTok hHeld => ?_)
        (refine wpTree_q 0 hTok hOps (by kernel_rfl) rfl rfl ⟨?_, ?_, ?_⟩; rotate_left; (focus (intro wx hSx; (try dsimp only at hSx); go_simp; (try with_reducible rfl))); (simp only [Act.put, List.setIfInBounds_toArray, List.set_cons_zero, List.set_cons_succ]))
        (refine wpTree_q 1 hTok hOps (by kernel_rfl) rfl rfl ⟨?_, ?_, ?_⟩; rotate_left; (focus (intro wx hSx; (try dsimp only at hSx); go_simp; (try with_reducible rfl))); (simp only [Act.put, List.setIfInBounds_toArray, List.set_cons_zero, List.set_cons_succ]))
        (refine wpTree_q 2 hTok hOps (by kernel_rfl) rfl rfl ⟨?_, ?_, ?_⟩; rotate_left; (focus (intro wx hSx; (try dsimp only at hSx); go_simp; (try with_reducible rfl))); (simp only [Act.put, List.setIfInBounds_toArray, List.set_cons_zero, List.set_cons_succ]))
        (refine wpTree_q 3 hTok hOps (by kernel_rfl) rfl rfl ⟨?_, ?_, ?_⟩; rotate_left; (focus (intro wx hSx; (try dsimp only at hSx); go_simp; (try with_reducible rfl))); (simp only [Act.put, List.setIfInBounds_toArray, List.set_cons_zero, List.set_cons_succ]))
        (refine wpTree_q 4 hTok hOps (by kernel_rfl) rfl rfl ⟨?_, ?_, ?_⟩; rotate_left; (focus (intro wx hSx; (try dsimp only at hSx); go_simp; (try with_reducible rfl))); (simp only [Act.put, List.setIfInBounds_toArray, List.set_cons_zero, List.set_cons_succ]))
        (refine wpTree_q 5 hTok hOps (by kernel_rfl) rfl rfl ⟨?_, ?_, ?_⟩; rotate_left; (focus (intro wx hSx; (try dsimp only at hSx); go_simp; (try with_reducible rfl))); (simp only [Act.put, List.setIfInBounds_toArray, List.set_cons_zero, List.set_cons_succ]))
        refine wpTree_nil hOps (by kernel_rfl) ?_
        refine hT.out _ _ ?_
        simp only [List.drop_succ_cons, List.drop_zero]
        clear hOps hT hTok hHeld
        have hb3' : Below W2.heap.size W2 W2.drew := (Below.refl _ _).drew
        have hD3 := hDd.below hb3'
        have hM3 := hD3.maps
        refine wpList_deleteL rfl _ _ _ rfl keyN hM3 Try.underlying52 (x := c.name) hs rfl rfl ?_
        intro W4 hM4 hc4
        have hM4' : MapL Try.prog 9 klT wfT W4 x.md (entF (withoutL l' c.name)) := by rw [← del_ent]; exact hM4
        have hD4 := hD3.turnSafe hM4' hc4 (Dsk.fil_without hD3.fils c.name) (Dsk.perm_without hD3.perms c.name)
        have hfin := hturn.out W2.drew W4 _ _ hb3' hc4 hS2.out hD4 (fun g h => .inl (BlkL.without h))
        replace hfin := Lib.hid hfin
        clear hD4 hM4 hM4' hM3 hD3 hc4 hb3' cd c3 x0 x1 x2 x3 hDd hCd hbW hidle hturn
        try simp only [Act.put]
        go_wp2_with fail
        gi_wp2
        exact hfin.out
  case stop =>
    rintro D c pre W hD hp hx hK
    exact hx.elim
  case done =>
    rintro D ys W hD rfl ⟨l', hDs, hC, hN9⟩ hK
    replace hN9 := Lib.hid hN9
    have hdbl : b < db := by rw [hdb.out]; exact h.blk.lt
    have hSf : foldF M.safe (ys.map (·.1)) = fallsM picks 0 M.chs M.safe := by rw [hzs, foldF_prs, h.chq]
    rw [hSf] at hDs
    have cd : W.cell? ⟨db, 0, none⟩ = some (.pointer (some ⟨b, 0, none⟩)) := (hd1.chg hC (fun e => h1.maps.ne_blk hd1 e.symm)).cellAt rfl
    have c3 := hDs.c3
    dsimp only at c3
    have hMk := marks_one (B := w.heap.size) (w := W) (D := D) (by have := hb1.size; omega) hK
    have hWs := hC.size
    have hcl := mclone_any x.md (entF l') W.drew ((hDs.below (Below.refl _ _).drew).maps)
    replace hSf := Lib.hid hSf
    clear hst hK hzs hzl hd1 hd2 hd3 hpk hpk1 hch
    dsimp only
    go_wp2_with fail
    refine wp_region_tree (fun wx => wx.cell? ⟨db, 0, none⟩ = some (.pointer (some ⟨b, 0, none⟩)) ∧ wx.cell? ⟨b, 3, none⟩ = some (.map (some x.md))) 6 9 (by kernel_rfl) rfl (by kernel_rfl) (fun d _ _ _ _ h => by cases d <;> exact h) (⟨cd, c3⟩) (fun opz T hOps hT hTok hHeld => ?_)
    (refine wpTree_q 0 hTok hOps (by kernel_rfl) rfl rfl ⟨?_, ?_, ?_⟩; rotate_left; (focus (intro wx hSx; (try dsimp only at hSx); go_simp; (try with_reducible rfl))); (simp only [Act.put, List.setIfInBounds_toArray, List.set_cons_zero, List.set_cons_succ]))
    (refine wpTree_q 1 hTok hOps (by kernel_rfl) rfl rfl ⟨?_, ?_, ?_⟩; rotate_left; (focus (intro wx hSx; (try dsimp only at hSx); go_simp; (try with_reducible rfl))); (simp only [Act.put, List.setIfInBounds_toArray, List.set_cons_zero, List.set_cons_succ]))
    (refine wpTree_q 2 hTok hOps (by kernel_rfl) rfl rfl ⟨?_, ?_, ?_⟩; rotate_left; (focus (intro wx hSx; (try dsimp only at hSx); go_simp; (try with_reducible rfl))); (simp only [Act.put, List.setIfInBounds_toArray, List.set_cons_zero, List.set_cons_succ]))
    (refine wpTree_q 3 hTok hOps (by kernel_rfl) rfl rfl ⟨?_, ?_, ?_⟩; rotate_left; (focus (intro wx hSx; (try dsimp only at hSx); go_simp; (try with_reducible rfl))); (simp only [Act.put, List.setIfInBounds_toArray, List.set_cons_zero, List.set_cons_succ]))
    (refine wpTree_q 4 hTok hOps (by kernel_rfl) rfl rfl ⟨?_, ?_, ?_⟩; rotate_left; (focus (intro wx hSx; (try dsimp only at hSx); go_simp; (try with_reducible rfl))); (simp only [Act.put, List.setIfInBounds_toArray, List.set_cons_zero, List.set_cons_succ]))
    refine wpTree_1 5 hOps (by kernel_rfl) (by decide) rfl (fun K' hK => ?_)
    go_simp
    refine hcl.mono ?_
    rintro e w5 ⟨rfl, hM5, hb5⟩
    have hb5' : Below W.heap.size W w5 := ((Below.refl _ _).drew).trans (hb5.mono (Nat.le_refl _))
    have cd5 := (hb5'.cell (p := ⟨db, 0, none⟩) (World.lt_of_cell cd)).trans cd
    have c35 := (hb5'.cell (p := ⟨b, 3, none⟩) (World.lt_of_cell c3)).trans c3
    dsimp only
    refine hK.out _ _ ⟨cd5, c35⟩ ?_
    clear hK K'
    try simp only [Act.put, List.setIfInBounds_toArray, List.set_cons_zero, List.set_cons_succ]
    refine wpTree_nil hOps (by kernel_rfl) ?_
    refine hT.out _ _ ?_
    simp only [List.drop_succ_cons, List.drop_zero]
    clear hOps hT hTok hHeld
    have hD5 := hDs.below hb5'
    have f1 := hD5.blk.frozen 1
    have f2 := hD5.blk.frozen 2
    have f4 := hD5.blk.frozen 4
    have b1 := hD5.c1
    have b2 := hD5.c2
    have b4 := hD5.c4
    dsimp only at b1 b2 b4
    obtain ⟨hfin, hc6⟩ := Dsk.crash (x := { x with safe := l' }) hDs hM5 hb5' (Nat.le_refl _) (by have := hb1.size; omega)
    have hb5b := hD5.blk.lt
    have hM6 : Marks w.heap.size [{ target := .collected D, args := #[] }] w5 := hMk.chg (Chg.of_below hb5') (fun k hk y e => by have := (Array.getElem?_eq_some_iff.1 e).1; omega)
    have hM7 := hM6.chg hc6 (fun k hk y => by subst hk; exact hD5.blk.noDef y)
    have hst : Chg (DS x b) w (((w5.setCell ⟨b, 2, none⟩ (.map (some W.drew.heap.size))).setCell ⟨b, 4, none⟩ (.slice none 0 0)).setCell ⟨b, 1, none⟩ (.bool false)) := ((((Chg.of_below hb1).mono (fun k h1 h2 => by omega)).then_new hC (fun i hi e => .inr (.inr (.inl e)))).then_new (Chg.of_below hb5') (fun i hi e => by have := hb1.size; omega)).then_new hc6 (fun i hi e => .inl e)
    have hfin2 : ∀ w', ShutM w.heap.size (((w5.setCell ⟨b, 2, none⟩ (.map (some W.drew.heap.size))).setCell ⟨b, 4, none⟩ (.slice none 0 0)).setCell ⟨b, 1, none⟩ (.bool false)) w' → DStepC w base b x (crashM M picks) w' := fun w' hs => by
      have hnn : ∀ g, BlkL l' g → BlkL x.safe g ∨ w.heap.size ≤ g := fun g hg => (hN9.out g hg).elim .inl (fun h => .inr (Nat.le_trans hb1.size h))
      have hnc : ∀ g, BlkF { x with mn := W.drew.heap.size, cv := .slice none 0 0, now := l', safe := l', chs := [] } g → BlkL x.safe g ∨ w.heap.size ≤ g := by
        rintro g (hg | hg | ⟨c, hc, _⟩)
        · exact hnn g hg
        · exact hnn g hg
        · cases hc
      refine ⟨_, hfin.shutM hs, hst.then_new (Chg.of_below hs.below) (fun i hi e => by omega), ?_, ⟨fun g hg => (hnc g hg).elim (fun h => .inl (.inr (.inl h))) .inr, hnn⟩, hnc⟩
      rintro k (hk | hk | hk | hk)
      · exact .inl (.inl hk)
      · have hk2 : k = W.heap.size := hk
        exact .inr (by rw [hk2]; have := hb1.size; omega)
      · exact .inl (.inr (.inr (.inl hk)))
      · cases hk
    have hsz7 : w.heap.size ≤ (((w5.setCell ⟨b, 2, none⟩ (.map (some W.drew.heap.size))).setCell ⟨b, 4, none⟩ (.slice none 0 0)).setCell ⟨b, 1, none⟩ (.bool false)).heap.size := hst.size
    replace hfin2 := Lib.hid hfin2
    replace hM7 := Lib.hid hM7
    replace hsz7 := Lib.hid hsz7
    clear hfin hst hc6 hM6 hD5 hb5' hM5 hb5 hC hDs hcl hMk hWs h1 h
    go_upto_region 13 with fail
    obtain ⟨w6, hw6⟩ : ∃ w6, w6 = w5.setCell ⟨b, 2, none⟩ (.map (some W.heap.size)) := ⟨_, rfl⟩
    have cd6 : w6.cell? ⟨db, 0, none⟩ = some (.pointer (some ⟨b, 0, none⟩)) := by rw [hw6, World.cell?_setCell_other _ _ _ _ (fun e => by injection e; omega)]; exact cd5
    have b41 : w6.cell? ⟨b, 4, none⟩ = some x.cv := by rw [hw6, World.cell?_setCell_other _ _ _ _ (fun e => by injection e; omega)]; exact b4
    have b11 : w6.cell? ⟨b, 1, none⟩ = some (.bool M.fails) := by rw [hw6, World.cell?_setCell_other _ _ _ _ (fun e => by injection e; omega)]; exact b1
    have f41 : w6.frozen? ⟨b, 4, none⟩ = false := by rw [hw6, World.frozen?_setCell]; exact f4
    have f11 : w6.frozen? ⟨b, 1, none⟩ = false := by rw [hw6, World.frozen?_setCell]; exact f1
    have hb6 : b < w6.heap.size := by rw [hw6]; simpa using hb5b
    rw [← hw6]
    replace hw6 := Lib.hid hw6
    clear cd5 c35 f1 f2 f4 hb5b b1 b2 b4
    go_upto_region 14 with fail
    obtain ⟨w7, hw7⟩ : ∃ w7, w7 = w6.setCell ⟨b, 4, none⟩ (.slice none 0 0) := ⟨_, rfl⟩
    have cd7 : w7.cell? ⟨db, 0, none⟩ = some (.pointer (some ⟨b, 0, none⟩)) := by rw [hw7, World.cell?_setCell_other _ _ _ _ (fun e => by injection e; omega)]; exact cd6
    have b12 : w7.cell? ⟨b, 1, none⟩ = some (.bool M.fails) := by rw [hw7, World.cell?_setCell_other _ _ _ _ (fun e => by injection e; omega)]; exact b11
    have f12 : w7.frozen? ⟨b, 1, none⟩ = false := by rw [hw7, World.frozen?_setCell]; exact f11
    have hb7 : b < w7.heap.size := by rw [hw7]; simpa using hb6
    rw [← hw7]
    replace hw7 := Lib.hid hw7
    clear cd6 f41 f11 hb6 b41 b11
    go_wp2_with fail
    change Hid (Marks _ _ ((((w5.setCell ⟨b, 2, none⟩ (.map (some W.heap.size)))).setCell ⟨b, 4, none⟩ (.slice none 0 0)).setCell ⟨b, 1, none⟩ (.bool false))) at hM7
    change Hid (_ ≤ ((((w5.setCell ⟨b, 2, none⟩ (.map (some W.heap.size)))).setCell ⟨b, 4, none⟩ (.slice none 0 0)).setCell ⟨b, 1, none⟩ (.bool false)).heap.size) at hsz7
    change Hid (∀ w', ShutM _ ((((w5.setCell ⟨b, 2, none⟩ (.map (some W.heap.size)))).setCell ⟨b, 4, none⟩ (.slice none 0 0)).setCell ⟨b, 1, none⟩ (.bool false)) w' → _) at hfin2
    rw [← hw6.out, ← hw7.out] at hM7 hsz7 hfin2
    refine leavesM_marks _ _ hM7.out hsz7.out (fun w' hs => ?_)
    exact ⟨_, results_none rfl _ _ _, ⟨_, rfl⟩, hfin2.out w' hs⟩
end Go.Proofs.Ytjgiphoolfhlmaa
