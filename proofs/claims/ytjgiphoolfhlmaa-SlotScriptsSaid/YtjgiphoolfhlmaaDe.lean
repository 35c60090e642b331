/- Disk: New, Write, Cut, Remove. -/
import Derived.Test.YtjgiphoolfhlmaaDd
namespace Go.Proofs.Ytjgiphoolfhlmaa
open Go.RowKit Go.Maps
attribute [local go_sem] Oper.semAt_some
set_option linter.unusedVariables false
set_option linter.unusedSimpArgs false

theorem withoutL_perm {α : Type} {l l' : List (ByteArray × α)} (h : l.Perm l') (s : ByteArray) : (withoutL l s).Perm (withoutL l' s) := h.filter _

namespace Dsk
variable {w w' w1 : World} {base b : Nat} {x : DX} {M : DM}
/-- One of the two maps turns. -/
theorem ne_mn (h : Dsk w base b x M) : b ≠ x.mn ∧ x.mn ≠ x.md ∧ ∀ g, x.cv.ownBlock = some g → g ≠ x.mn :=
  ⟨fun e => h.mapn.ne_blk h.blk e.symm, h.ne, fun g e e2 => by
    rcases h.row.form with ⟨h1, _⟩ | ⟨g2, cap, cells, h1, h2, _⟩
    · rw [h1] at e; cases e
    · rw [h1] at e
      obtain rfl : g2 = g := by simpa [Value.ownBlock] using e
      exact h.mapn.ne_blk h2 e2.symm⟩
theorem ne_md (h : Dsk w base b x M) : b ≠ x.md ∧ x.mn ≠ x.md ∧ ∀ g, x.cv.ownBlock = some g → g ≠ x.md :=
  ⟨fun e => h.maps.ne_blk h.blk e.symm, h.ne, fun g e e2 => by
    rcases h.row.form with ⟨h1, _⟩ | ⟨g2, cap, cells, h1, h2, _⟩
    · rw [h1] at e; cases e
    · rw [h1] at e
      obtain rfl : g2 = g := by simpa [Value.ownBlock] using e
      exact h.maps.ne_blk h2 e2.symm⟩
theorem turnNow (h : Dsk w base b x M) {l : List (ByteArray × FV)} {L : Files} (hM : MapL Try.prog 9 klT wfT w' x.mn (entF l)) (hc : Chg (fun k => k = x.mn) w w') (hf : ∀ p ∈ l, FileAt w base p.2.v p.2.bs) (hp : (absF l).Perm L) : Dsk w' base b { x with now := l } { M with now := L } := by
  obtain ⟨n1, n2, n3⟩ := h.ne_mn
  have hU : ∀ k, k = x.mn → ∀ cs, ¬ Blk w k cs 5 := fun k hk => h.noU8 k (.inr (.inl hk))
  exact ⟨h.blk.chg hc n1, hM, h.maps.chg hc (Ne.symm n2), h.row.chg hc n3, fun p hp2 => (hf p hp2).chg hc hU, fun p hp2 => (h.fils p hp2).chg hc hU, fun c hc2 => (h.filc c hc2).chg hc hU, hp, h.perms, h.chq, h.ne, h.bb, h.bn, h.bm⟩
theorem turnSafe (h : Dsk w base b x M) {l : List (ByteArray × FV)} {L : Files} (hM : MapL Try.prog 9 klT wfT w' x.md (entF l)) (hc : Chg (fun k => k = x.md) w w') (hf : ∀ p ∈ l, FileAt w base p.2.v p.2.bs) (hp : (absF l).Perm L) : Dsk w' base b { x with safe := l } { M with safe := L } := by
  obtain ⟨n1, n2, n3⟩ := h.ne_md
  have hU : ∀ k, k = x.md → ∀ cs, ¬ Blk w k cs 5 := fun k hk => h.noU8 k (.inr (.inr (.inl hk)))
  exact ⟨h.blk.chg hc n1, h.mapn.chg hc n2, hM, h.row.chg hc n3, fun p hp2 => (h.filn p hp2).chg hc hU, fun p hp2 => (hf p hp2).chg hc hU, fun c hc2 => (h.filc c hc2).chg hc hU, h.permn, hp, h.chq, h.ne, h.bb, h.bn, h.bm⟩
theorem perm_with {l : List (ByteArray × FV)} {L : Files} (h : (absF l).Perm L) (s : ByteArray) (f : FV) : (absF ((s, f) :: withoutL l s)).Perm (withL L s f.bs) := by
  refine List.Perm.trans ?_ (withL_perm L s f.bs).symm
  show ((s, f.bs) :: mapL FV.bs (withoutL l s)).Perm _
  rw [withoutL_map]
  exact (withoutL_perm h s).cons _
theorem perm_without {l : List (ByteArray × FV)} {L : Files} (h : (absF l).Perm L) (s : ByteArray) : (absF (withoutL l s)).Perm (withoutL L s) := by
  show (mapL FV.bs (withoutL l s)).Perm _
  rw [withoutL_map]
  exact withoutL_perm h s
theorem set_ent (l : List (ByteArray × FV)) (s : ByteArray) (f : FV) : setE (entF l) s f.v = entF ((s, f) :: withoutL l s) := by
  unfold setE
  rw [del_ent]
  rfl
theorem fil_with {l : List (ByteArray × FV)} (h : ∀ p ∈ l, FileAt w base p.2.v p.2.bs) {f : FV} (hf : FileAt w base f.v f.bs) (s : ByteArray) : ∀ p ∈ (s, f) :: withoutL l s, FileAt w base p.2.v p.2.bs := fun p hp => by
  rcases List.mem_cons.1 hp with rfl | hp
  · exact hf
  · exact h p (mem_withoutL.1 hp).1
theorem fil_without {l : List (ByteArray × FV)} (h : ∀ p ∈ l, FileAt w base p.2.v p.2.bs) (s : ByteArray) : ∀ p ∈ withoutL l s, FileAt w base p.2.v p.2.bs := fun p hp => h p (mem_withoutL.1 hp).1
/-- A change more. -/
theorem push (h : Dsk w base b x M) {v' : Value} {c : CH} (hg : Grew w x.cv w1 v') (hown : OwnL encC w1 base 73 4 v' (x.chs ++ [c])) (hfc : FileAt w1 base c.d.v c.d.bs) :
    Dsk (w1.setCell ⟨b, 4, none⟩ v') base b { x with cv := v', chs := x.chs ++ [c] } { M with chs := M.chs ++ [c.abs] } := by
  have hc1 : Chg (fun k => x.cv.ownBlock = some k) w w1 := Chg.of_grown hg.grown
  have hrow : ∀ k, x.cv.ownBlock = some k → ∀ cs, ¬ Blk w k cs 5 := fun k hk => h.noU8 k (.inr (.inr (.inr hk)))
  have hb1 : Blk w1 b #[.int .i64 M.room, .bool M.fails, .map (some x.mn), .map (some x.md), x.cv] 55 := h.blk.chg hc1 (fun e => h.row.ne_blk h.blk (by decide) e)
  have hn1 := h.mapn.chg hc1 (fun e => h.ne_mn.2.2 _ e rfl)
  have hm1 := h.maps.chg hc1 (fun e => h.ne_md.2.2 _ e rfl)
  have hc2 : Chg (fun k => k = b) w1 (w1.setCell ⟨b, 4, none⟩ v') := (Chg.refl _ _).setCell _ _ (fun _ => rfl)
  have hU : ∀ k, k = b → ∀ cs, ¬ Blk w1 k cs 5 := fun k hk cs hb => by
    rw [hk] at hb
    unfold Blk at hb hb1
    rw [hb1] at hb
    simp at hb
  refine ⟨by simpa using hb1.set 4 v', hn1.chg hc2 (fun e => hn1.ne_blk hb1 e), hm1.chg hc2 (fun e => hm1.ne_blk hb1 e), hown.chg hc2 (fun g e1 e2 => hown.ne_blk hb1 (by decide) (by rw [e1, e2])), fun p hp => ((h.filn p hp).chg hc1 hrow).chg hc2 hU, fun p hp => ((h.fils p hp).chg hc1 hrow).chg hc2 hU, fun c2 hc3 => ?_, h.permn, h.perms, by simp [h.chq], h.ne, h.bb, h.bn, h.bm⟩
  rcases List.mem_append.1 hc3 with hc3 | hc3
  · exact ((h.filc c2 hc3).chg hc1 hrow).chg hc2 hU
  · obtain rfl : c2 = c := by simpa using hc3
    exact hfc.chg hc2 hU
end Dsk

/-- The block of a file's bytes. -/
def FV.at (f : FV) (g : Nat) : Prop := f.cap ≠ 0 ∧ f.ao = some ⟨g, 0, Option.none⟩
def BlkL (l : List (ByteArray × FV)) (g : Nat) : Prop := ∃ p ∈ l, p.2.at g
def BlkF (x : DX) (g : Nat) : Prop := BlkL x.now g ∨ BlkL x.safe g ∨ ∃ c ∈ x.chs, c.d.at g
/-- What files lie where none lay: they are new. -/
def NewF (w : World) (x x' : DX) : Prop := (∀ g, BlkF x' g → BlkF x g ∨ w.heap.size ≤ g) ∧ ∀ g, BlkL x'.safe g → BlkL x.safe g ∨ w.heap.size ≤ g
theorem FileAt.new {w : World} {B : Nat} {f : FV} (h : FileAt w B f.v f.bs) : ∀ g, f.at g → B ≤ g := by
  rintro g ⟨h1, h2⟩
  unfold FV.v at h
  rcases h with ⟨h3, ao, h4⟩ | ⟨g', cap, cells, h4, h5, h6, h7, h8, h9⟩
  · simp only [Value.slice.injEq] at h4
    exact absurd h4.2.2 h1
  · simp only [Value.slice.injEq] at h4
    rw [h4.1] at h2
    cases h2
    exact h8
theorem FileAt.at_lt {w : World} {B : Nat} {f : FV} (h : FileAt w B f.v f.bs) : ∀ g, f.at g → g < w.heap.size := by
  rintro g ⟨h1, h2⟩
  unfold FV.v at h
  rcases h with ⟨h3, ao, h4⟩ | ⟨g', cap, cells, h4, h5, h6, h7, h8, h9⟩
  · simp only [Value.slice.injEq] at h4
    exact absurd h4.2.2 h1
  · simp only [Value.slice.injEq] at h4
    rw [h4.1] at h2
    cases h2
    exact h5.lt
/-- A file stays where its block does. -/
theorem FileAt.chgF {w w' : World} {B : Nat} {f : FV} {S : Nat → Prop} (h : FileAt w B f.v f.bs) (hc : Chg S w w') (hS : ∀ g, f.at g → ¬ S g) : FileAt w' B f.v f.bs := by
  have h0 := h
  rcases h with h | ⟨g', cap, cells, h4, h5, h6, h7, h8, h9⟩
  · exact .inl h
  · have h4' := h4
    unfold FV.v at h4
    simp only [Value.slice.injEq] at h4
    by_cases hz : f.cap = 0
    · refine .inl ⟨List.length_eq_zero_iff.1 (by omega), f.ao, ?_⟩
      unfold FV.v
      rw [hz, show f.bs.length = 0 by omega]
    · exact .inr ⟨g', cap, cells, h4', h5.chg hc (fun s => hS g' ⟨hz, h4.1⟩ s), h6, h7, h8, h9⟩
theorem BlkL.without {l : List (ByteArray × FV)} {s : ByteArray} {g : Nat} (h : BlkL (withoutL l s) g) : BlkL l g := by
  obtain ⟨p, hp, h⟩ := h
  exact ⟨p, (mem_withoutL.1 hp).1, h⟩
theorem BlkL.cons {l : List (ByteArray × FV)} {s : ByteArray} {f : FV} {g : Nat} (h : BlkL ((s, f) :: l) g) : f.at g ∨ BlkL l g := by
  obtain ⟨p, hp, h⟩ := h
  rcases List.mem_cons.1 hp with rfl | hp
  · exact .inl h
  · exact .inr ⟨p, hp, h⟩
theorem NewF.refl (w : World) (x : DX) : NewF w x x := ⟨fun g h => .inl h, fun g h => .inl h⟩
theorem NewF.push {w : World} {x : DX} {s : ByteArray} {f3 : FV} {c : CH} {v' : Value} (h3 : ∀ g, f3.at g → w.heap.size ≤ g) (h5 : ∀ g, c.d.at g → w.heap.size ≤ g) : NewF w x { x with cv := v', now := (s, f3) :: withoutL x.now s, chs := x.chs ++ [c] } := by
  refine ⟨?_, fun g h => .inl h⟩
  rintro g (h | h | ⟨d, hd, h⟩)
  · rcases BlkL.cons h with h | h
    · exact .inr (h3 g h)
    · exact .inl (.inl (BlkL.without h))
  · exact .inl (.inr (.inl h))
  · rcases List.mem_append.1 hd with hd | hd
    · exact .inl (.inr (.inr ⟨d, hd, h⟩))
    · obtain rfl : d = c := by simpa using hd
      exact .inr (h5 g h)
theorem NewF.pull {w : World} {x : DX} {s : ByteArray} {c : CH} {v' : Value} (h5 : ∀ g, c.d.at g → w.heap.size ≤ g) : NewF w x { x with cv := v', now := withoutL x.now s, chs := x.chs ++ [c] } := by
  refine ⟨?_, fun g h => .inl h⟩
  rintro g (h | h | ⟨d, hd, h⟩)
  · exact .inl (.inl (BlkL.without h))
  · exact .inl (.inr (.inl h))
  · rcases List.mem_append.1 hd with hd | hd
    · exact .inl (.inr (.inr ⟨d, hd, h⟩))
    · obtain rfl : d = c := by simpa using hd
      exact .inr (h5 g h)
theorem none_at {g : Nat} : ¬ FV.none.at g := fun h => h.1 rfl
theorem NewF.sync {w : World} {x : DX} {l : List (ByteArray × FV)} {chs : List CH} {v' : Value} (hl : ∀ g, BlkL l g → BlkL x.safe g ∨ w.heap.size ≤ g) (hc : ∀ c ∈ chs, c ∈ x.chs) : NewF w x { x with cv := v', safe := l, chs := chs } := by
  refine ⟨?_, hl⟩
  rintro g (h | h | ⟨d, hd, h⟩)
  · exact .inl (.inl h)
  · rcases hl g h with h | h
    · exact .inl (.inr (.inl h))
    · exact .inr h
  · exact .inl (.inr (.inr ⟨d, hc d hd, h⟩))

/-- What a call does to a disk: it reads as M' behind it. -/
def DStep (w : World) (base b : Nat) (x : DX) (M' : DM) (w' : World) : Prop :=
  ∃ x', Dsk w' base b x' M' ∧ Chg (DS x b) w w' ∧ (∀ k, DS x' b k → DS x b k ∨ w.heap.size ≤ k) ∧ NewF w x x'
theorem DStep.same {w w' : World} {base b : Nat} {x : DX} {M : DM} (h : Dsk w base b x M) (hb : Below w.heap.size w w') : DStep w base b x M w' :=
  ⟨x, h.below hb, (Chg.of_below hb).mono (fun k hk h2 => by omega), fun k hk => .inl hk, NewF.refl w x⟩
theorem DStep.then {w w1 w2 : World} {base b : Nat} {x : DX} {M1 : DM} {x1 x2 : DX} {M2 : DM} (h1 : Chg (DS x b) w w1) (h1' : ∀ k, DS x1 b k → DS x b k ∨ w.heap.size ≤ k) (h2 : Dsk w2 base b x2 M2) (hc : Chg (DS x1 b) w1 w2) (h2' : ∀ k, DS x2 b k → DS x1 b k ∨ w1.heap.size ≤ k) (hn : NewF w x x2) : DStep w base b x M2 w2 := by
  have hs := h1.size
  refine ⟨x2, h2, h1.then_new hc (fun i hi t => ?_), fun k hk => ?_, hn⟩
  · rcases h1' i t with h | h
    · exact h
    · omega
  · rcases h2' k hk with h | h
    · exact h1' k h
    · exact .inr (by omega)
/-- A step of pushing a change: what may have turned. -/
theorem push_chg {w w1 : World} {b : Nat} {x : DX} {v' : Value} {u : Value} (hg : Grew w x.cv w1 v') : Chg (DS x b) w (w1.setCell ⟨b, 4, none⟩ u) :=
  ((Chg.of_grown hg.grown).mono (fun k _ e => .inr (.inr (.inr e)))).setCell _ _ (fun _ => .inl rfl)
theorem push_ds {w w1 : World} {b : Nat} {x x' : DX} {v' : Value} (hg : Grew w x.cv w1 v') (h1 : x'.mn = x.mn) (h2 : x'.md = x.md) (h3 : x'.cv = v') : ∀ k, DS x' b k → DS x b k ∨ w.heap.size ≤ k := by
  rintro k (h | h | h | h)
  · exact .inl (.inl h)
  · exact .inl (.inr (.inl (h.trans h1)))
  · exact .inl (.inr (.inr (.inl (h.trans h2))))
  · rw [h3] at h
    rcases hg.place with e | ⟨g, e, hl⟩
    · exact .inl (.inr (.inr (.inr (by rw [← e]; exact h))))
    · rw [e] at h
      cases h
      exact .inr hl

theorem mk_mapS (u : World) : (Instr.makeMap 52 none).run Try.prog u = .ok (.map (some u.heap.size)) (u.alloc (.map #[] 0)) := rfl
attribute [local go_sem] mk_mapS
def emptyM (r : Int) : DM := ⟨r, false, [], [], []⟩
theorem new_bad (r : Int) (w : World) (hr : r < 0 ∨ 1073741824 < r) :
    Calls Try.prog 7 #[.int .i64 r] w fun e w' => e = .returned (.tuple #[.pointer none, .int .i64 1]) ∧ w' = w := by
  rcases hr with h1 | h1
  · have d1 : decide (r < 0) = true := by simp; omega
    go_enter Try.func7, Try.ntmps7
    go_wp2_with fail
    go_ret2
    exact ⟨rfl, rfl⟩
  · have d1 : decide (r < 0) = false := by simp; omega
    have d2 : decide (1073741824 < r) = true := by simp; omega
    go_enter Try.func7, Try.ntmps7
    go_wp2_with fail
    go_ret2
    exact ⟨rfl, rfl⟩
theorem new_any (r : Int) (w : World) (h0 : 0 ≤ r) (h1 : r ≤ 1073741824) :
    Calls Try.prog 7 #[.int .i64 r] w fun e w' => ∃ b x, e = .returned (.tuple #[.pointer (some ⟨b, 0, none⟩), .int .i64 0]) ∧ Dsk w' w.heap.size b x (emptyM r) ∧ Below w.heap.size w w' ∧ x.now = [] ∧ x.safe = [] ∧ x.chs = [] := by
  have d1 : decide (r < 0) = false := by simp; omega
  have d2 : decide (1073741824 < r) = false := by simp; omega
  have hfin : Dsk (((w.alloc (.map #[] 0)).alloc (.map #[] 0)).alloc (.cells #[.int .i64 r, .bool false, .map (some w.heap.size), .map (some (w.heap.size + 1)), .slice none 0 0] 55)) w.heap.size (w.heap.size + 1 + 1) ⟨w.heap.size, w.heap.size + 1, .slice none 0 0, [], [], []⟩ (emptyM r) := by
    have hm1 : MapL Try.prog 9 klT wfT (w.alloc (.map #[] 0)) w.heap.size ([] : List (ByteArray × Value)) := MapL.made w
    have hm2 : MapL Try.prog 9 klT wfT ((w.alloc (.map #[] 0)).alloc (.map #[] 0)) (w.heap.size + 1) ([] : List (ByteArray × Value)) := by
      have := MapL.made (P := Try.prog) (k := 9) (kl := klT) (wf := wfT) (w.alloc (.map #[] 0))
      rwa [World.size_alloc] at this
    have hb := Blk.new ((w.alloc (.map #[] 0)).alloc (.map #[] 0)) #[.int .i64 r, .bool false, .map (some w.heap.size), .map (some (w.heap.size + 1)), .slice none 0 0] 55
    rw [World.size_alloc, World.size_alloc] at hb
    exact ⟨hb, hm1.chg (((Chg.refl (fun _ => False) _).alloc _).alloc _) (fun h => h), hm2.chg ((Chg.refl (fun _ => False) _).alloc _) (fun h => h), OwnL.nil _ _ _ _ _, fun p hp => (by cases hp), fun p hp => (by cases hp), fun p hp => (by cases hp), .refl _, .refl _, rfl, by simp, by omega, Nat.le_refl _, by simp⟩
  have hbel : Below w.heap.size w (((w.alloc (.map #[] 0)).alloc (.map #[] 0)).alloc (.cells #[.int .i64 r, .bool false, .map (some w.heap.size), .map (some (w.heap.size + 1)), .slice none 0 0] 55)) := ((belowAlloc w _).alloc (by simp) _).alloc (by simp; omega) _
  go_enter Try.func7, Try.ntmps7
  go_wp2_with fail
  go_ret2
  exact ⟨_, _, rfl, by simpa using hfin, by simpa using hbel, rfl, rfl, rfl⟩
end Go.Proofs.Ytjgiphoolfhlmaa
