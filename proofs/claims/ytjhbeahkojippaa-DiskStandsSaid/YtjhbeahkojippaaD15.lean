/- Disk: Names. -/
import Derived.Test.YtjhbeahkojippaaD14
import Derived.Test.YtjhbeahkojippaaLayN
namespace Go.Proofs.Ytjhbeahkojippaa
open Go.RowKit Go.Maps Go.Sort Go.Shelf
attribute [local go_sem] Oper.semAt_some
set_option linter.unusedVariables false
set_option linter.unusedSimpArgs false

theorem len0_any (w : World) : Calls Try.prog 59 #[.int .u64 0] w fun e w' => e = .returned (.int .i64 0) ∧ w' = w := by
  have h := calls_of_every_depth (fun D => AnySM.bits_LenInS { laySort with } D 0 w (by omega) (by omega))
  change Calls Try.prog 59 _ _ _ at h
  exact h
theorem insert0_any (p : Option Addr) (cap : Nat) (w : World) : Calls Try.prog 60 #[.slice p 0 cap, .int .i64 0, .int .i64 0] w fun e w' => e = .returned (.tuple #[]) ∧ w' = w := by
  go_enter Try.func60, Try.ntmps60
  go_wp2
  refine wp_loop_rounds 1 ?_
  rw [rounds_succ]
  go_wp2
  go_end0
  exact ⟨rfl, rfl⟩
theorem pdq0_any (p : Option Addr) (cap : Nat) (w : World) : Calls Try.prog 58 #[.slice p 0 cap, .int .i64 0, .int .i64 0, .int .i64 0] w fun e w' => e = .returned (.tuple #[]) ∧ w' = w := by
  have h0 := fun w => insert0_any p cap w
  go_enter Try.func58, Try.ntmps58
  go_wp2
  refine wp_loop_rounds 1 ?_
  rw [rounds_succ]
  go_wp2_with fail
  refine (h0 _).mono ?_
  rintro e w' ⟨rfl, rfl⟩
  go_wp2_with fail
  (try simp only [Exit.inBlock, Exit.then]); refine bodyPost_ret (results_none rfl _ _ _) rfl ?_
  exact ⟨rfl, rfl⟩
theorem sort0_any (p : Option Addr) (cap : Nat) (w : World) : Calls Try.prog 55 #[.slice p 0 cap] w fun e w' => e = .returned (.tuple #[]) ∧ w' = w := by
  have h0 := fun w => len0_any w
  have h1 := fun w => pdq0_any p cap w
  go_enter Try.func55, Try.ntmps55
  go_wp2_with fail
  refine (h0 _).mono ?_
  rintro e w' ⟨rfl, rfl⟩
  go_wp2_with fail
  refine (h1 _).mono ?_
  rintro e w' ⟨rfl, rfl⟩
  go_wp2_with fail
  go_end0
  exact ⟨rfl, rfl⟩
/-- A string as it lies. -/
def encT (s : ByteArray) : List Value := [.string s]
theorem encT_len (s : ByteArray) : (encT s).length = 1 := rfl
theorem encT_one (s : ByteArray) : ∀ u ∈ encT s, u.oneCell' = true := by
  intro u hu
  simp only [encT, List.mem_singleton] at hu
  subst hu; rfl
def rawS (s : ByteArray) : List UInt8 := s.data.toList
theorem encStr_raw (s : ByteArray) : encStr (rawS s) = .string s := rfl
theorem infoT : (Try.prog.info? 9).map (fun i => (i.zero, i.size, i.bytes)) = some (some (.string ⟨#[]⟩), 1, 16) := by kernel_rfl
theorem partsT : ∃ i, Try.prog.info? 9 = some i ∧ i.zero = some (.string ⟨#[]⟩) ∧ i.size = 1 ∧ i.bytes = 16 := infoParts infoT

theorem flatT (l : List ByteArray) : l.flatMap encT = l.map Value.string := by
  induction l with
  | nil => rfl
  | cons a r ih => rw [List.flatMap_cons, ih]; rfl
/-- A row of strings behind its sorting. -/
theorem ownT_sorted {w : World} {base g cap n : Nat} {xs ys : List ByteArray} {os : Array Obj} (h : OwnL encT w base 9 1 (.slice (some ⟨g, 0, none⟩) xs.length cap) xs) (hd : ys.length = xs.length) :
    OwnL encT (grow (putRow encStr (Sort.ahead w n) g 0 (ys.map rawS).toArray) os) base 9 1 (.slice (some ⟨g, 0, none⟩) xs.length cap) ys ∧ w.grownBy (grow (putRow encStr (Sort.ahead w n) g 0 (ys.map rawS).toArray) os) (some g) := by
  rcases h.form with ⟨h1, _⟩ | ⟨g', cap', cells, h1, h2, h3, h4, h5, h6, h7, h8⟩
  · cases h1
  · simp only [Value.slice.injEq, Option.some.injEq, Addr.mk.injEq, and_true, true_and] at h1
    obtain ⟨rfl, rfl⟩ := h1
    have hsz : (putRow encStr (Sort.ahead w n) g 0 (ys.map rawS).toArray).heap.size = w.heap.size := by simp [putRow, mapBlock]
    have hblk : (grow (putRow encStr (Sort.ahead w n) g 0 (ys.map rawS).toArray) os).heap[g]? = some (.cells (putCells encStr 0 (ys.map rawS).toArray cells) 9 (0, 0)) := by
      rw [heap_grow_old _ _ (by rw [hsz]; exact h7)]
      unfold putRow mapBlock
      have h2' : w.heap[g]? = some (.cells cells 9 (0, 0)) := h2
      simp only [heap_ahead, Array.getElem?_modify, if_true, h2', Option.map_some, onCells]
    refine ⟨⟨by rw [flatT, List.length_map, Nat.mul_one], .inr ⟨g, cap, _, ?_, h6, hblk, ?_, h4, ?_, ?_⟩⟩, ?_⟩
    · simp [hd]
    · simpa [hd] using h3
    · simpa [putCells] using h5
    · rw [flatT]
      apply List.ext_getElem?
      intro t
      rw [List.getElem?_take]
      by_cases ht : t < ys.length
      · have ht2 : t < cells.size := by rw [h5]; omega
        rw [if_pos (by omega)]
        simp only [putCells, Array.getElem?_toList, Array.getElem?_mapIdx, Array.getElem?_eq_getElem ht2, Option.map_some]
        rw [if_pos ⟨Nat.zero_le _, by simpa using ht⟩, Nat.sub_zero, List.getElem!_toArray, getElem!_pos _ t (by simpa using ht), List.getElem_map, encStr_raw, List.getElem?_map, List.getElem?_eq_getElem ht]
        rfl
      · rw [if_neg (by omega), List.getElem?_eq_none (by rw [List.length_map]; omega)]
    · refine ⟨rfl, rfl, rfl, by simp [hsz], fun i hi hne => ?_⟩
      rw [heap_grow_old _ _ (by rw [hsz]; exact hi)]
      unfold putRow mapBlock
      simp only [heap_ahead, Array.getElem?_modify]
      rw [if_neg (fun e => hne (by rw [e]))]

/-- The names in their order. -/
theorem names_sorted {xs : List ByteArray} {L : Files} (hs : Srt L) (hp : xs.Perm (L.map Prod.fst)) : (xs.map rawS).mergeSort (fun x y => decide (x ≤ y)) = (L.map Prod.fst).map rawS := by
  have h1 : ((xs.map rawS).mergeSort (fun x y => decide (x ≤ y))).Perm ((L.map Prod.fst).map rawS) := (List.mergeSort_perm _ _).trans (hp.map _)
  have h2 : ((xs.map rawS).mergeSort (fun x y => decide (x ≤ y))).Pairwise (fun x y => decide (x ≤ y) = true) := List.pairwise_mergeSort (fun a b c h1 h2 => by simpa using List.le_trans (by simpa using h1) (by simpa using h2)) (fun a b => by simpa using List.le_total a b) _
  have h3 : ((L.map Prod.fst).map rawS).Pairwise (fun x y => decide (x ≤ y) = true) := by
    rw [List.pairwise_map, List.pairwise_map]
    refine List.Pairwise.imp (fun {a b} h => ?_) hs
    rw [less_eq, ByteArray.toList_eq, ByteArray.toList_eq] at h
    have h4 : rawS a.1 < rawS b.1 := of_decide_eq_true h
    exact decide_eq_true (List.le_of_lt h4)
  exact List.Perm.eq_of_pairwise (le := fun x y => decide (x ≤ y) = true) (fun a b _ _ h1 h2 => List.le_antisymm (by simpa using h1) (by simpa using h2)) h2 h3 h1

theorem sortT_any (xs : List ByteArray) (L : Files) (v : Value) (w : World) (base : Nat) (h : OwnL encT w base 9 1 v xs) (hl : xs.length ≤ 1000000) (hs : Srt L) (hp : xs.Perm (L.map Prod.fst)) :
    Calls Try.prog 55 #[v] w fun e w' => e = .returned (.tuple #[]) ∧ OwnL encT w' base 9 1 v (L.map Prod.fst) ∧ w.grownBy w' v.ownBlock := by
  rcases h.form with ⟨rfl, rfl⟩ | ⟨g, cap, cells, rfl, hbk, h3, h4, h5, _, hlt, _⟩
  · refine (sort0_any none 0 w).mono ?_
    rintro e w' ⟨rfl, rfl⟩
    have : L.map Prod.fst = [] := List.Perm.nil_eq hp |>.symm
    rw [this]
    exact ⟨rfl, h, World.grownBy.refl _ _⟩
  · have hH : Holds encStr w g 0 (xs.map rawS).toArray := by
      intro j hj
      have hj' : j < xs.length := by simpa using hj
      rw [Nat.zero_add]
      refine ⟨?_, World.ownsRow.frozenAt h j⟩
      rw [World.ownsRow.cellAt h j (by rw [Nat.mul_one]; exact hj'), flatT]
      rw [List.getElem!_toArray, getElem!_pos _ j (by simpa using hj'), List.getElem_map, encStr_raw, List.getElem?_map, List.getElem?_eq_getElem hj']
      rfl
    have hcon := AnyM.slices_Sort_string laySort g 0 cap (xs.map rawS) w hH hlt (by simp; omega)
    change Calls Try.prog 55 _ _ _ at hcon
    rw [List.length_map] at hcon
    refine hcon.mono ?_
    rintro e w' ⟨rfl, n, os, rfl⟩
    rw [names_sorted hs hp]
    obtain ⟨h1, h2⟩ := ownT_sorted (n := n) (os := os) (ys := L.map Prod.fst) h hp.length_eq.symm
    exact ⟨rfl, h1, h2⟩

set_option maxRecDepth 100000 in
set_option maxHeartbeats 2000000 in
theorem names_any {base b : Nat} {x : DX} {M : DM} {N : Nat} (w : World) (h : Dsk w base b x M) (hok : OkM N M) (hN : N ≤ 1000000) :
    Calls Try.prog 44 #[.pointer (some ⟨b, 0, none⟩)] w fun e w' => ∃ v, e = .returned v ∧ OwnL encT w' w.heap.size 9 1 v (M.now.map Prod.fst) ∧ Below w.heap.size w w' := by
  obtain ⟨ii, hi, hz0, hz1, hz2⟩ := partsT
  have c2 := h.c2
  have hM := h.mapn
  have hpn : (x.now.map Prod.fst).Perm (M.now.map Prod.fst) := by
    have := h.permn.map Prod.fst
    simp only [mapL, List.map_map] at this
    exact this
  have hln : x.now.length ≤ 1000000 := by
    have := hpn.length_eq
    rw [List.length_map, List.length_map] at this
    have := hok.ln
    omega
  have hsort := fun (v : Value) (xs : List ByteArray) (w1 : World) (hp : xs.Perm (x.now.map Prod.fst)) (ho : OwnL encT w1 w.heap.size 9 1 v xs) => sortT_any xs M.now v w1 w.heap.size ho (by rw [hp.length_eq, List.length_map]; exact hln) hok.now (hp.trans hpn)
  obtain ⟨now, hnow⟩ : ∃ now, now = x.now := ⟨_, rfl⟩
  rw [← hnow] at hM hln hsort
  obtain ⟨mn, hmn⟩ : ∃ mn, mn = x.mn := ⟨_, rfl⟩
  rw [← hmn] at hM c2
  obtain ⟨nms, hnms⟩ : ∃ nms, nms = M.now.map Prod.fst := ⟨_, rfl⟩
  rw [← hnms] at hsort ⊢
  replace hsort := Lib.hid hsort
  clear hmn hnow hnms hpn h hok
  go_enter Try.func44, Try.ntmps44
  go_wp2_with (at_range; refine wpList_rangeL rfl _ _ rfl keyN hM Try.underlying61 rfl ?next)
  case next =>
  intro w1 hr hb1 hs1
  obtain ⟨rb, hrb⟩ : ∃ rb, rb = w.heap.size := ⟨_, rfl⟩
  rw [← hrb] at hr hb1 hs1 hsort ⊢
  have hrb1 : rb < w1.heap.size := by omega
  have hmr : mn < rb := by rw [hrb]; exact hM.lt
  clear hs1 c2 hM
  replace hrb := Lib.hid hrb
  go_wp2_with fail
  go_loopw [3] (fun v wr => ∃ (rest : List (ByteArray × FV)) (xs : List ByteArray), RangeL Try.prog 9 klT wfT wr mn rb (entF now) (entF rest) ∧ OwnL encT wr (rb + 1) 9 1 v xs ∧ Hid ((xs ++ rest.map Prod.fst).Perm (now.map Prod.fst)) ∧ Below rb w wr ∧ rb < wr.heap.size) (fun _ wr => wr.rangeLeft mn rb)
  case atStart => exact ⟨now, [], hr, OwnL.nil _ _ _ _ _, Lib.hid (List.Perm.refl _), hb1, hrb1⟩
  case round =>
    clear hr hb1 hrb1
    obtain ⟨rest, xs, hr, hO, hpx, hbr, hlt⟩ := hrel
    go_wp2_with (at_next; refine wpList_nextL rfl _ rfl keyN hr rfl ?fin ?more)
    case fin =>
      intro h0
      have hr0 : rest = [] := by cases rest with | nil => rfl | cons a r => cases h0
      subst hr0
      rw [List.map_nil, List.append_nil] at hpx
      have hsv := hsort.out _ xs wr hpx.out (hO.base_le (Nat.le_succ rb))
      replace hsv := Lib.hid hsv
      clear hr hpx h0
      go_wp2_with fail
      refine hsv.out.mono ?_
      rintro e w3 ⟨rfl, hO3, hg3⟩
      have hb3 : Below rb w w3 := hbr.trans ((Below.refl rb wr).grown hg3 (Nat.le_of_lt hlt) (fun k hk => (hO.base_le (Nat.le_succ rb)).lt k hk |>.1))
      clear hsv hsort hg3 hbr
      dsimp only
      go_wp2_with fail
      go_ret
      rw [hrb.out] at hO3 hb3
      exact ⟨_, rfl, hO3, hb3⟩
    case more =>
      intro s v w2 hm hx hr2 hlt2 hch hsz hen
      obtain ⟨f, rfl, hfm⟩ := ent_mem hm
      have hp := without_perm (by rw [← ent_keys]; exact hr.rnodup) hfm
      rw [del_ent] at hr2
      have hb2 : Below rb w w2 := hbr.trans (hch.below (by omega) (fun j hj e => by omega))
      have hO2 : OwnL encT w2 (rb + 1) 9 1 _ xs := hO.chg hch (fun g e1 e2 => by have := (hO.lt g e1).1; omega)
      have hpx2 : Hid (((xs ++ [s]) ++ (withoutL rest s).map Prod.fst).Perm (now.map Prod.fst)) := Lib.hid (by
        refine List.Perm.trans ?_ hpx.out
        rw [List.append_assoc]
        exact List.Perm.append_left _ (hp.map Prod.fst).symm)
      have hxl : Hid (xs.length + 1 ≤ 1000000) := Lib.hid (by
        have := hpx2.out.length_eq
        simp only [List.length_append, List.length_map, List.length_singleton] at this
        omega)
      have hlt3 : rb < w2.heap.size := by omega
      obtain ⟨a5, c5, hv5, _, _, _⟩ := hO2.slice
      rw [hv5] at hO2 ⊢
      obtain ⟨m, hm5⟩ : ∃ m, m = xs.length := ⟨_, rfl⟩
      rw [← hm5] at hO2 ⊢
      replace hm5 := Lib.hid hm5
      have hsz2 : rb + 1 ≤ w2.heap.size := hlt3
      clear hp hfm hm hx hpx hO hr hch hv5 hsz
      go_wp2_with (at_builtin; refine Shut.out ?kk1)
      unfold Shut
      change wpList _ _ _ _ _ (World.alloc _ (.cells (encT s).toArray 9))
      refine wpList_app1g rfl _ _ 80 rfl Try.underlying80 hi hz0 hz1 hz2 rfl (by decide) (enc := encT) s rfl hO2 (by first | rfl | (show Value.slice _ _ _ = _; rfl)) (encT_len _) (encT_one _) (by have := hxl.out; omega) (by have := hxl.out; unfold maxLen; omega) hsz2 (fun g3 cap3 w3 hO3 hgr3 => ?_)
      rw [← hm5.out] at hO3 hgr3 ⊢
      have hch3 := Chg.of_grown hgr3.grown
      have hn3 : ∀ k, (Value.slice a5 m c5).ownBlock = some k → rb + 1 ≤ k := fun k hk => (hO2.lt k hk).1
      obtain ⟨hr3, hlf3⟩ := hr2.chg hch3 (fun e => by have := hn3 _ e; omega) (fun e => by have := hn3 _ e; omega)
      have hb3 : Below rb w w3 := hb2.trans (hgr3.below (by omega) (fun k hk => by have := hn3 k hk; omega))
      have hsz3 : rb < w3.heap.size := Nat.lt_of_lt_of_le hlt3 hch3.size
      have hlt4 : Hid (w3.rangeLeft mn rb < wr.rangeLeft mn rb) := Lib.hid (by rw [hlf3]; exact hlt2)
      clear hr2 hlf3 hn3 hch3 hgr3 hO2 hen hlt2
      go_wp2_with fail
      go_roundw
      case rel => exact ⟨withoutL rest s, _, hr3, hO3, hpx2, hb3, hsz3⟩
      case measure => exact hlt4.out
end Go.Proofs.Ytjhbeahkojippaa
