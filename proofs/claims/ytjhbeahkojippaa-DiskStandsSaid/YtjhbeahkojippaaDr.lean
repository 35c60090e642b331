/- Disk: DiskKeeps: what it calls: Same, Room, Kept; the nil disk. -/
import Derived.Test.YtjhbeahkojippaaDn
import Derived.OwnWalk
namespace Go.Proofs.Ytjhbeahkojippaa
open Go.RowKit Go.Maps
attribute [local go_sem] Oper.semAt_some
set_option linter.unusedVariables false
set_option linter.unusedSimpArgs false

/-- A disk stays where others' blocks turn, bytes' too. -/
theorem Dsk.keepF {w w' : World} {base b : Nat} {x : DX} {M : DM} {S : Nat → Prop} (h : Dsk w base b x M) (hc : Chg S w w') (hS : ∀ k, S k → ¬ DS x b k) (hF : ∀ g, BlkF x g → ¬ S g) : Dsk w' base b x M :=
  ⟨h.blk.chg hc (fun s => hS _ s (.inl rfl)), h.mapn.chg hc (fun s => hS _ s (.inr (.inl rfl))), h.maps.chg hc (fun s => hS _ s (.inr (.inr (.inl rfl)))), h.row.chg hc (fun g e s => hS g s (.inr (.inr (.inr e)))),
    fun p hp => (h.filn p hp).chgF hc (fun g hg => hF g (.inl ⟨p, hp, hg⟩)), fun p hp => (h.fils p hp).chgF hc (fun g hg => hF g (.inr (.inl ⟨p, hp, hg⟩))), fun c hcm => (h.filc c hcm).chgF hc (fun g hg => hF g (.inr (.inr ⟨c, hcm, hg⟩))), h.permn, h.perms, h.chq, h.ne, h.bb, h.bn, h.bm⟩
theorem Dsk.blk_lt {w : World} {base b : Nat} {x : DX} {M : DM} (h : Dsk w base b x M) : ∀ g, BlkF x g → g < w.heap.size := by
  rintro g (⟨p, hp, hg⟩ | ⟨p, hp, hg⟩ | ⟨c, hc, hg⟩)
  · exact (h.filn p hp).at_lt g hg
  · exact (h.fils p hp).at_lt g hg
  · exact (h.filc c hc).at_lt g hg

set_option maxRecDepth 100000 in
theorem same_any {B1 B2 : Nat} {a1 a2 : Option Addr} {c1 c2 : Nat} {bs1 bs2 : List UInt8} (w : World) (h1 : SlA B1 1 EU w a1 c1 bs1) (h2 : SlA B2 1 EU w a2 c2 bs2) :
    Calls Try.prog 18 #[.slice a1 bs1.length c1, .slice a2 bs2.length c2] w fun e w' => e = .returned (.bool (decide (bs1 = bs2))) ∧ w' = w := by
  have t1 := textU h1
  have t2 := textU h2
  have he := strU_eq bs1 bs2
  obtain ⟨n1, hn1⟩ : ∃ n, n = bs1.length := ⟨_, rfl⟩
  obtain ⟨n2, hn2⟩ : ∃ n, n = bs2.length := ⟨_, rfl⟩
  obtain ⟨q, hq⟩ : ∃ q, q = decide (bs1 = bs2) := ⟨_, rfl⟩
  rw [← hn1] at t1 ⊢
  rw [← hn2] at t2 ⊢
  rw [← hq] at he ⊢
  generalize strU bs1 = s1 at t1 he
  generalize strU bs2 = s2 at t2 he
  clear hn1 hn2 hq h1 h2
  go_enter Try.func18, Try.ntmps18
  go_wp2_with fail
  go_ret
  refine ⟨?_, rfl⟩
  first | rfl | (rw [he]) | (simp only [he])

theorem wpList_world {P : Program} {ops : Array Oper} {Q : Exit → Act → World → Prop} {l : List Oper} {a : Act} {w : World} (h : ∀ w', w' = w → wpList P ops Q l a w') : wpList P ops Q l a w := h w rfl
def mark3 : List UInt8 := [171, 172, 173]
set_option maxRecDepth 100000 in
set_option maxHeartbeats 4000000 in
theorem room_any (ao : Option Addr) (cap : Nat) (bs : List UInt8) (w : World) (h : SlA w.heap.size 1 EU w ao cap bs) (hl : bs.length ≤ 1048576) :
    Calls Try.prog 19 #[.slice ao bs.length cap] w fun e w' => ∃ g cap, e = .returned (.slice (some ⟨g, 0, none⟩) bs.length cap) ∧ OwnL encU w' w.heap.size 5 1 (.slice (some ⟨g, 0, none⟩) (bs.length + 3) cap) (bs ++ mark3) ∧ Below w.heap.size w w' := by
  obtain ⟨i0, hi, hz0, hz1, hz2⟩ := partsU
  obtain ⟨n, hn⟩ : ∃ n, n = bs.length := ⟨_, rfl⟩
  rw [← hn] at hl ⊢
  replace hn := Lib.hid hn
  go_enter Try.func19, Try.ntmps19
  go_wp2_with (at_make; refine Shut.out ?s1)
  unfold Shut
  refine wpList_make_own _ rfl _ _ 23 rfl w.heap.size 5 i0 _ 1 Try.underlying23 hi hz0 hz1 .i64 .i64 ((n : Int) + 3) (n + 3) rfl rfl rfl (by rw [hz2]; omega) (by unfold maxLen; omega) (Nat.le_refl _) (fun w1 hown1 hgr1 => ?_)
  have hown1 : OwnL encU w1 w.heap.size 5 1 (.slice (some ⟨w.heap.size, 0, none⟩) 0 (n + 3)) [] := hown1
  have hb1 : Below w.heap.size w w1 := (Below.refl _ _).grown hgr1 (Nat.le_refl _) (fun k hk => by cases hk)
  have hu1 : SlA w1.heap.size 1 EU w1 ao cap bs := h.imp hb1 hb1.size (fun cs x _ h => h)
  have hs1 := hb1.size
  clear hgr1
  go_wp2_with (at_builtin; refine Shut.out ?s2)
  unfold Shut
  refine wpList_app_sla (xs := []) (ys := bs) (enc := encU) _ rfl _ _ 23 rfl Try.underlying23 hi hz0 hz1 hz2 rfl (by decide) rfl hown1 (by show Value.slice ao n cap = _; rw [hn.out]) hu1 encU_len encU_one (by have := hn.out; unfold maxLen; simp; omega) (by have := hn.out; simp; omega) hs1 (fun v2 w2 hown2 hgr2 => ?_)
  rw [List.nil_append] at hown2
  have hb2 : Below w.heap.size w w2 := hb1.grown hgr2 hs1 (fun k hk => (hown1.lt k hk).1)
  have hs2 := hb2.size
  clear hgr2 hown1 hu1
  go_wp2_with (at_builtin; refine Shut.out ?s3)
  unfold Shut
  refine wpList_world ?_
  intro w3 hw3
  have hb23 : Below w2.heap.size w2 w3 := by rw [hw3]; exact belowAlloc _ _
  have hk3 : Blk w3 w2.heap.size #[.int .u8 171, .int .u8 172, .int .u8 173] 5 := by rw [hw3]; exact Blk.new _ _ _
  have hown3 := hown2.below hb23 (Nat.le_refl _)
  have hm3 : OwnL encU w3 w2.heap.size 5 1 (.slice (some ⟨w2.heap.size, 0, none⟩) 3 3) mark3 := ownBlk (cap := 3) (xs := mark3) hk3 (Nat.le_refl _) (by decide) (by decide) rfl rfl rfl
  have hb3 := hb2.trans (hb23.mono hs2)
  clear hw3
  refine wpList_app_rows _ rfl _ _ 23 rfl Try.underlying23 hi hz0 hz1 hz2 rfl (by decide) (enc := encU) rfl hown3 rfl hm3 encU_len encU_one (by have := hn.out; unfold maxLen mark3; simp; omega) (by have := hn.out; unfold mark3; simp; omega) hb3.size (fun v4 w4 hown4 hgr4 => ?_)
  have hb4 : Below w.heap.size w w4 := hb3.grown hgr4 hb3.size (fun k hk => (hown3.lt k hk).1)
  have hl4 : (bs ++ mark3).length = n + 3 := by rw [List.length_append, ← hn.out]; rfl
  rcases hown4.form with ⟨_, h0⟩ | ⟨g, cap4, cells, hv4, _, hc4, _, _, hg4, _⟩
  · rw [h0] at hl4; simp at hl4
  rw [hl4] at hv4 hc4
  subst hv4
  clear hgr4 hown3 hm3 hk3 hown2
  have hcz : ¬ cap4 = 0 := by omega
  go_wp2_with fail
  go_ret
  exact ⟨g, cap4, rfl, hown4, hb4⟩

theorem own_front {w : World} {base g n cap : Nat} {a r : List UInt8} (h : OwnL encU w base 5 1 (.slice (some ⟨g, 0, none⟩) n cap) (a ++ r)) (hn : n = (a ++ r).length) : OwnL encU w base 5 1 (.slice (some ⟨g, 0, none⟩) a.length cap) a := by
  rcases h.form with ⟨h0, _⟩ | ⟨g', cap', cells, hv, hk, h3, h4, h5, h6, h7, h8⟩
  · cases h0
  · obtain ⟨rfl, rfl⟩ : g = g' ∧ cap = cap' := by simp at hv; exact ⟨hv.1, hv.2.2⟩
    rw [List.length_append] at h3 h8
    refine ownBlk hk h6 (by omega) h4 h5 ?_ (flat_len encU_len a)
    have := congrArg (List.take (a.length * 1)) h8
    rw [List.take_take, List.flatMap_append, List.take_left' (flat_len encU_len a)] at this
    rw [← this]
    congr 1
    omega

set_option maxRecDepth 100000 in
set_option maxHeartbeats 4000000 in
theorem kept_any (g cap : Nat) (ao : Option Addr) (c2 B2 : Nat) (bs : List UInt8) (w : World) (base : Nat) (h : OwnL encU w base 5 1 (.slice (some ⟨g, 0, none⟩) (bs.length + 3) cap) (bs ++ mark3)) (h2 : SlA B2 1 EU w ao c2 bs) (hl : bs.length ≤ 1048576) :
    Calls Try.prog 20 #[.slice (some ⟨g, 0, none⟩) bs.length cap, .slice ao bs.length c2] w fun e w' => e = .returned (.bool true) ∧ w' = w := by
  have hs := own_front h (by simp [mark3])
  obtain ⟨a1, k1, e1, hs1⟩ := own_slaU hs
  simp only [Value.slice.injEq, true_and] at e1
  obtain ⟨rfl, rfl⟩ := e1
  have hSm := same_any w hs1 h2
  rw [decide_eq_true rfl] at hSm
  have hc : ∀ i, i < 3 → w.cell? ⟨g, bs.length + i, none⟩ = some (.int .u8 ((mark3.getD i 0).toNat : Nat)) := by
    intro i hi3
    rcases h.form with ⟨_, h0⟩ | ⟨g', cap', cells, hv, hk, h3, h4, h5, h6, h7, h8⟩
    · simp [mark3] at h0
    · obtain ⟨rfl, rfl⟩ : g = g' ∧ cap = cap' := by simp at hv; exact ⟨hv.1, hv.2.2⟩
      rw [hk.cell]
      have hlt : bs.length + i < (bs ++ mark3).length := by simp [mark3]; omega
      have h9 := flat_at (enc := encU) (size := 1) encU_len (bs ++ mark3) (bs.length + i) 0 hlt (by omega)
      rw [← h8, List.getElem?_take, if_pos (by omega), Nat.mul_one, Nat.add_zero] at h9
      rw [← Array.getElem?_toList, h9]
      rw [List.getElem_append_right (by omega)]
      have : bs.length + i - bs.length = i := by omega
      simp only [this]
      match i, hi3 with
      | 0, _ => rfl
      | 1, _ => rfl
      | 2, _ => rfl
  have c0 : w.cell? ⟨g, bs.length, none⟩ = some (.int .u8 171) := hc 0 (by omega)
  have c1 : w.cell? ⟨g, bs.length + 1, none⟩ = some (.int .u8 172) := hc 1 (by omega)
  have c2 : w.cell? ⟨g, bs.length + 2, none⟩ = some (.int .u8 173) := hc 2 (by omega)
  have hcap : bs.length + 3 ≤ cap := by
    rcases h.form with ⟨_, h0⟩ | ⟨g', cap', cells, hv, hk, h3, _⟩
    · simp [mark3] at h0
    · obtain ⟨rfl, rfl⟩ : g = g' ∧ cap = cap' := by simp at hv; exact ⟨hv.1, hv.2.2⟩
      simpa [mark3] using h3
  clear hc hs h h2 hs1
  obtain ⟨n, hn⟩ : ∃ n, n = bs.length := ⟨_, rfl⟩
  rw [← hn] at c0 c1 c2 hcap hSm hl ⊢
  clear hn
  have hcz : ¬ cap = 0 := by omega
  go_enter Try.func20, Try.ntmps20
  go_wp2_with (go_at_call 18; refine Shut.out ?k1)
  unfold Shut
  refine hSm.mono ?_
  rintro e w2 ⟨rfl, rfl⟩
  dsimp only
  go_wp2_with fail
  go_ret
  exact ⟨by simp, rfl⟩

/-! The nil disk. -/
theorem nil_ready (s : ByteArray) (n : Int) (w : World) : Calls Try.prog 29 #[.pointer none, .string s, .int .i64 n] w fun e w' => e = .returned (.int .i64 9) ∧ w' = w := by
  go_enter Try.func29, Try.ntmps29
  go_wp2_with fail
  go_ret
  exact ⟨rfl, rfl⟩
theorem nil_write (s : ByteArray) (n : Int) (w : World) : Calls Try.prog 10 #[.pointer none, .string s, .int .i64 n, .slice none 0 0] w fun e w' => e = .returned (.int .i64 9) ∧ w' = w := by
  have h := nil_ready s n w
  go_enter Try.func10, Try.ntmps10
  go_wp2_with fail
  refine h.mono ?_
  rintro e w1 ⟨rfl, rfl⟩
  dsimp only
  go_wp2_with fail
  go_ret
  exact ⟨rfl, rfl⟩
theorem nil_cut (s : ByteArray) (n : Int) (w : World) : Calls Try.prog 22 #[.pointer none, .string s, .int .i64 n] w fun e w' => e = .returned (.int .i64 9) ∧ w' = w := by
  have h := nil_ready s n w
  go_enter Try.func22, Try.ntmps22
  go_wp2_with fail
  refine h.mono ?_
  rintro e w1 ⟨rfl, rfl⟩
  dsimp only
  go_wp2_with fail
  go_ret
  exact ⟨rfl, rfl⟩
theorem nil_remove (s : ByteArray) (w : World) : Calls Try.prog 23 #[.pointer none, .string s] w fun e w' => e = .returned (.int .i64 9) ∧ w' = w := by
  have h := nil_ready s 0 w
  go_enter Try.func23, Try.ntmps23
  go_wp2_with fail
  refine h.mono ?_
  rintro e w1 ⟨rfl, rfl⟩
  dsimp only
  go_wp2_with fail
  go_ret
  exact ⟨rfl, rfl⟩
theorem nil_sync (s : ByteArray) (w : World) : Calls Try.prog 11 #[.pointer none, .string s] w fun e w' => e = .returned (.int .i64 9) ∧ Below w.heap.size w w' := by
  have hba : Below w.heap.size w (w.alloc (.cells #[.string s] 9)) := belowAlloc _ _
  have h := nil_ready s 0 (w.alloc (.cells #[.string s] 9))
  go_enter Try.func11, Try.ntmps11
  go_wp2_with fail
  refine h.mono ?_
  rintro e w1 ⟨rfl, rfl⟩
  dsimp only
  go_wp2_with fail
  go_ret
  exact ⟨rfl, hba⟩
theorem nil_limit (n : Int) (w : World) : Calls Try.prog 24 #[.pointer none, .int .i64 n] w fun e w' => e = .returned (.int .i64 9) ∧ w' = w := by
  go_enter Try.func24, Try.ntmps24
  go_wp2_with fail
  go_ret
  exact ⟨rfl, rfl⟩
theorem nil_copy (w : World) : Calls Try.prog 25 #[.pointer none] w fun e w' => e = .returned (.pointer none) ∧ w' = w := by
  go_enter Try.func25, Try.ntmps25
  go_wp2_with fail
  go_ret
  exact ⟨rfl, rfl⟩
theorem nil_used (w : World) : Calls Try.prog 26 #[.pointer none] w fun e w' => e = .returned (.int .i64 0) ∧ w' = w := by
  go_enter Try.func26, Try.ntmps26
  go_wp2_with fail
  go_ret
  exact ⟨rfl, rfl⟩
theorem nil_read (s : ByteArray) (w : World) : Calls Try.prog 13 #[.pointer none, .string s] w fun e w' => e = .returned (.tuple #[.slice none 0 0, .bool false]) ∧ w' = w := by
  go_enter Try.func13, Try.ntmps13
  go_wp2_with fail
  go_ret2
  exact ⟨rfl, rfl⟩
theorem nil_fail (on : Bool) (w : World) : Calls Try.prog 16 #[.pointer none, .bool on] w fun e w' => (∃ v, e = .returned v) ∧ w' = w := by
  go_enter Try.func16, Try.ntmps16
  go_wp2_with fail
  go_end0
  exact ⟨⟨_, rfl⟩, rfl⟩
theorem nil_crash (v : Value) (w : World) : Calls Try.prog 12 #[.pointer none, v] w fun e w' => (∃ v, e = .returned v) ∧ Below w.heap.size w w' := by
  have hba : Below w.heap.size w (w.alloc (.cells #[.pointer none] 26)) := belowAlloc _ _
  refine calls_of_marks Try.func12 rfl ?_
  simp only [Try.ntmps12, List.size_toArray, List.length_cons, List.length_nil, Nat.reduceAdd, Nat.reduceSub, Array.replicate_succ, Array.replicate_zero, List.push_toArray, List.append_toArray, List.nil_append, List.cons_append]
  go_wp2_with fail
  refine leavesM_marks [] _ trivial hba.size (fun w' hs => ?_)
  exact ⟨_, results_none rfl _ _ _, ⟨_, rfl⟩, hba.trans hs.below⟩
end Go.Proofs.Ytjhbeahkojippaa
