/- Reach: more pointstamps: plain Lean; the walk of ReachMore. -/
import Derived.Test.YtbiakolkcikeiaaRB
import Derived.Test.YtbiakolkcikeiaaTyAt
import Derived.Test.YtbiakolkcikeiaaL1
import Derived.Deep.RegionHeld3
namespace Go.Proofs.Ytbiakolkcikeiaa
open Go.RowKit Go.Shelf
set_option linter.unusedVariables false
set_option linter.unusedSimpArgs false

theorem timesS_append (ops : List TOp) (loc : Int) (L M : List TStamp) : timesS ops loc (L ++ M) = timesS ops loc L ++ timesS ops loc M := by
  unfold timesS timesF
  split
  · rw [List.flatMap_append]
  · rfl
theorem coversT_append (l m : List TTime) (t : TTime) : coversT (l ++ m) t = (coversT l t || coversT m t) := by
  unfold coversT
  rw [List.any_append]
theorem covers_mem {l f : List TTime} (h : IsFront l f) {x : TTime} (hx : x ∈ f) : coversT l x = true := by
  obtain ⟨hm, hg, _⟩ := (h.2 x).1 hx
  unfold coversT
  exact List.any_eq_true.2 ⟨x, hm, by rw [hg, (leT_iff _ _).2 ⟨Int.le_refl _, Int.le_refl _⟩]; rfl⟩
theorem SlA.take {α : Type} {B sz : Nat} {E : World → List Value → α → Prop} {w : World} {ao : Option Addr} {cap : Nat} {xs : List α} (h : SlA B sz E w ao cap xs) (k : Nat) : SlA B sz E w ao cap (xs.take k) := by
  obtain ⟨h1, h2, h3, h4⟩ := h
  refine ⟨Nat.le_trans (List.length_take_le' _ _) h1, h2, h3, fun hne => ?_⟩
  obtain ⟨b, off, rfl, hlt, h5⟩ := h4 (fun e => hne (by rw [e]; simp))
  refine ⟨b, off, rfl, hlt, fun i hi => ?_⟩
  rw [List.length_take] at hi
  obtain ⟨cs, h6, h7, h8⟩ := h5 i (by omega)
  exact ⟨cs, h6, h7, by rw [List.getElem_take]; exact h8⟩

/-- The variables of ReachMore. -/
structure PSt (w wr : World) (ao : Option Addr) (n cap sb : Nat) (l0 e0 r0 : Int) : Prop where
  bel : Below w.heap.size w wr
  g : Blk wr w.heap.size #[.slice ao n cap] 24
  s : Blk wr sb #[.int .i64 l0, .int .i64 e0, .int .i64 r0] 28
  n : w.heap.size ≤ sb
namespace PSt
variable {w wr wr' : World} {ao : Option Addr} {n cap sb : Nat} {l0 e0 r0 : Int}
theorem below (h : PSt w wr ao n cap sb l0 e0 r0) (k : Below wr.heap.size wr wr') : PSt w wr' ao n cap sb l0 e0 r0 :=
  ⟨h.bel.trans (k.mono h.bel.size), h.g.below k h.g.lt, h.s.below k h.s.lt, h.n⟩
theorem facts (h : PSt w wr ao n cap sb l0 e0 r0) : wr.cell? ⟨w.heap.size, 0, none⟩ = some (.slice ao n cap) ∧
    wr.cell? ⟨sb, 0, none⟩ = some (.int .i64 l0) ∧ wr.cell? ⟨sb, 1, none⟩ = some (.int .i64 e0) ∧ wr.cell? ⟨sb, 2, none⟩ = some (.int .i64 r0) ∧ w.heap.size < wr.heap.size ∧ sb < wr.heap.size :=
  ⟨h.g.cellAt rfl, h.s.cellAt rfl, h.s.cellAt rfl, h.s.cellAt rfl, h.g.lt, h.s.lt⟩
theorem hold (h : PSt w wr ao n cap sb l0 e0 r0) : wr.cell? ⟨w.heap.size, 0, none⟩ = some (.slice ao n cap) ∧ wr.cell? ⟨sb, 0, none⟩ = some (.int .i64 l0) ∧ wr.cell? ⟨sb, 1, none⟩ = some (.int .i64 e0) ∧ wr.cell? ⟨sb, 2, none⟩ = some (.int .i64 r0) :=
  ⟨h.g.cellAt rfl, h.s.cellAt rfl, h.s.cellAt rfl, h.s.cellAt rfl⟩
theorem grow (h : PSt w wr ao n cap sb l0 e0 r0) {row : Option Nat} {B : Nat} (hg : wr.grownBy wr' row) (hr : ∀ g, row = some g → B ≤ g) (hB : sb < B) (hB2 : w.heap.size < B) (hB3 : B ≤ wr.heap.size) : PSt w wr' ao n cap sb l0 e0 r0 := by
  have hb : Below B wr wr' := (Below.refl B wr).grown hg hB3 hr
  exact ⟨h.bel.trans (hb.mono (by omega)), h.g.below hb hB2, h.s.below hb hB, h.n⟩
end PSt

theorem blk_drew {w : World} {b : Nat} {cs : Array Value} {T : TypeId} (h : Blk w b cs T) : Blk w.drew b cs T := h.drewN 1
theorem own_empty {W : World} {base b : Nat} (h : Blk W b #[] 28) (hb : base ≤ b) : OwnL encS W base 28 3 (.slice (some ⟨b, 0, none⟩) 0 0) [] :=
  ⟨rfl, .inr ⟨b, 0, #[], rfl, hb, h, Nat.le_refl _, Nat.zero_le _, rfl, rfl⟩⟩
theorem blk_after (w : World) (o : Obj) (cs : Array Value) (T : TypeId) : Blk ((w.alloc o).alloc (.cells cs T)) (w.heap.size + 1) cs T := by
  have := Blk.new (w.alloc o) cs T
  simpa using this
theorem below_after (w : World) (o o2 : Obj) : Below w.heap.size w ((w.alloc o).alloc o2) := Below.alloc (Below.alloc (Below.refl _ _) (Nat.le_refl _) _) (by simp) _
theorem blk_grown' {w w' : World} {row : Option Nat} {b : Nat} {cs : Array Value} {T : TypeId} (h : w.grownBy w' row) (hb : Blk w b cs T) (hne : row ≠ some b) : Blk w' b cs T := by
  have := hb.lt
  unfold Blk at *
  rw [h.block b this (Ne.symm hne), hb]
theorem es_of {B B' : Nat} {w : World} {ao : Option Addr} {cap : Nat} {xs : List TStamp} (h : SlA B 3 (RStamp B') w ao cap xs) : SlA B 3 (fun _ cs x => cs = encS x) w ao cap xs := h.imp (Below.refl _ _) (Nat.le_refl _) (fun _ _ _ h => h.1)
theorem wf_stamps {B : Nat} {w : World} {ao : Option Addr} {cap : Nat} {xs : List TStamp} (h : SlA B 3 (RStamp B) w ao cap xs) : ∀ x ∈ xs, ∀ B' w', RStamp B' w' (encS x) x := by
  intro x hx
  obtain ⟨i, hi, rfl⟩ := List.getElem_of_mem hx
  obtain ⟨b, off, rfl, _, h5⟩ := h.addr (by omega)
  obtain ⟨cs, _, _, hr⟩ := h5 i hi
  obtain ⟨_, h0, h1, h2⟩ := hr
  exact fun _ _ => ⟨rfl, h0, h1, h2⟩
theorem below_alloc3' (w : World) (o : Obj) : Below w.heap.size w (w.alloc o) := Below.alloc (Below.refl _ _) (Nat.le_refl _) _
theorem stamp_one {W : World} {B b : Nat} {l e r : Int} {T : TypeId} (h : Blk W b #[.int .i64 l, .int .i64 e, .int .i64 r] T) (hb : b < B) (hw : (Lit.int .i64 l).wf = true ∧ (Lit.int .i64 e).wf = true ∧ (Lit.int .i64 r).wf = true) :
    SlA B 3 (RStamp B) W (some ⟨b, 0, none⟩) 1 [⟨l, ⟨e, r⟩⟩] := SlA.of_blk h hb (by simp) (by unfold maxLen; omega) (fun i hi => by
  obtain rfl : i = 0 := by simpa using hi
  refine ⟨[.int .i64 l, .int .i64 e, .int .i64 r], rfl, fun j hj => ?_, rfl, hw⟩
  match j, hj with
  | 0, _ => rfl
  | 1, _ => rfl
  | 2, _ => rfl)

set_option maxRecDepth 100000 in
set_option maxHeartbeats 400000 in
theorem more_walk (ops : List TOp) (cap : Nat) (ao : Option Addr) (L : List TStamp) (c2 : Nat) (ao2 : Option Addr) (l0 e0 r0 loc : Int) (w : World) (hx : SlA w.heap.size 7 (ROp w.heap.size) w ao cap ops)
    (hl : SlA w.heap.size 3 (RStamp w.heap.size) w ao2 c2 L) (hw0 : (Lit.int .i64 l0).wf = true ∧ (Lit.int .i64 e0).wf = true ∧ (Lit.int .i64 r0).wf = true) :
    Calls Try.prog 6 #[.agg #[.slice ao ops.length cap], .slice ao2 L.length c2, .agg #[.int .i64 l0, .int .i64 e0, .int .i64 r0, .int .i64 loc]] w fun x w' => x = .returned (.bool true) ∧ Below w.heap.size w w' := by
  have hll := hl.len
  have hlc := hl.2.1
  have hlc1 := hl.1
  have hP := fun (M : List TStamp) (k : Nat) (am : Option Addr) (B : Nat) W (hb : Below w.heap.size w W) (hB : B ≤ W.heap.size) (hwB : w.heap.size ≤ B) (hm : SlA B 3 (RStamp B) W am k M) (hz : (M.length + 1) * 16 ≤ 140737488351232) => pfront_any ops cap ao M k am loc B W hB (hx.imp hb hwB (fun _ _ _ h => h.imp hb hwB)) hm hz
  obtain ⟨L', hL'⟩ : ∃ L', L' = L.take 40 := ⟨_, rfl⟩
  have hl' : SlA w.heap.size 3 (RStamp w.heap.size) w ao2 c2 L' := by rw [hL']; exact SlA.take hl 40
  have hl40 : L'.length ≤ 40 := by rw [hL']; simp; omega
  have hmn : L'.length = min 40 L.length := by rw [hL', List.length_take]
  clear hL'
  obtain ⟨m, hm⟩ : ∃ m, m = L.length := ⟨_, rfl⟩
  obtain ⟨m', hm'⟩ : ∃ m', m' = L'.length := ⟨_, rfl⟩
  rw [← hm'] at hl40 hmn
  rw [← hm] at hmn hll hlc1 ⊢
  have hwL : ∀ x ∈ L' ++ [(⟨l0, ⟨e0, r0⟩⟩ : TStamp)], ∀ B w', RStamp B w' (encS x) x := fun x hx => by
    rcases List.mem_append.1 hx with hx | hx
    · exact wf_stamps hl' x hx
    · obtain rfl : x = ⟨l0, ⟨e0, r0⟩⟩ := by simpa using hx
      exact fun _ _ => ⟨rfl, hw0⟩
  replace hwL := Lib.hid hwL
  obtain ⟨i0, hi, hz0, hz1, hz2⟩ := info_parts infoS
  generalize ops.length = n at *
  have hpa := fun (W : World) (hb : Below w.heap.size w W) => hP L' c2 ao2 w.heap.size W hb hb.size (Nat.le_refl _) (imp_stamps hl' hb) (by rw [← hm']; omega)
  rw [← hm'] at hpa
  replace hpa := Lib.hid hpa
  replace hm := Lib.hid hm
  replace hm' := Lib.hid hm'
  replace hP := Lib.hid hP
  replace hmn := Lib.hid hmn
  replace hw0 := Lib.hid hw0
  clear hl
  go_enter Try.func6, Try.ntmps6
  go_wp2_with fail
  refine (known_any _).mono ?_
  rintro x w1 ⟨rfl, b1⟩
  have hg1 : Blk w1 w.heap.size #[.slice ao n cap] 24 := ((Blk.new _ _ _).alloc _).below b1 (by simp; omega)
  have ha1 : Blk w1 (w.heap.size + 1) #[.int .i64 l0, .int .i64 e0, .int .i64 r0, .int .i64 loc] 44 := by
    have := Blk.new (w.alloc (.cells #[.slice ao n cap] 24)) #[.int .i64 l0, .int .i64 e0, .int .i64 r0, .int .i64 loc] 44
    rw [World.size_alloc] at this
    exact this.below b1 (by simp)
  have hbel1 : Below w.heap.size w w1 := (by repeat (first | exact Below.refl _ _ | assumption | refine below_drewN ?_ _ | refine Below.drew ?_ | (refine Below.setCell ?_ (by first | omega | (simp; omega) | simp) _) | (refine Below.alloc ?_ (by first | omega | (simp; omega) | simp) _) | (refine Below.trans ?_ (Below.mono (by assumption) (by first | omega | (simp; omega) | simp)))))
  clear b1
  have c0 : w1.cell? ⟨w.heap.size, 0, none⟩ = some (.slice ao n cap) := hg1.cellAt rfl
  have c1 : w1.cell? ⟨w.heap.size + 1, 0, none⟩ = some (.int .i64 l0) := ha1.cellAt rfl
  have c2' : w1.cell? ⟨w.heap.size + 1, 1, none⟩ = some (.int .i64 e0) := ha1.cellAt rfl
  have c3 : w1.cell? ⟨w.heap.size + 1, 2, none⟩ = some (.int .i64 r0) := ha1.cellAt rfl
  have c4 : w1.cell? ⟨w.heap.size + 1, 3, none⟩ = some (.int .i64 loc) := ha1.cellAt rfl
  have cl := ha1.lt
  have cl0 := hg1.lt
  go_upto_region 3 with fail
  go_cut [7, 8] from 17 to 20 (fun s7 s8 wx => ∃ sb, s7 = .pointer (some ⟨sb, 0, none⟩) ∧ s8 = .int .i64 loc ∧ PSt w wx ao n cap sb l0 e0 r0)
  case first =>
    go_region_held3 (fun wx => wx.cell? ⟨w.heap.size + 1, 0, none⟩ = some (.int .i64 l0) ∧ wx.cell? ⟨w.heap.size + 1, 1, none⟩ = some (.int .i64 e0) ∧ wx.cell? ⟨w.heap.size + 1, 2, none⟩ = some (.int .i64 r0) ∧ wx.cell? ⟨w.heap.size + 1, 3, none⟩ = some (.int .i64 loc))
      (first | go_keep) (first | fail)
    all_goals
      have hS : PSt w (w1.alloc (.cells #[.int .i64 l0, .int .i64 e0, .int .i64 r0] 28)).drew ao n cap w1.heap.size l0 e0 r0 := ⟨Below.drew (hbel1.alloc hbel1.size _), (hg1.alloc _).drewN 1, (Blk.new w1 _ _).drewN 1, hbel1.size⟩
      generalize (w1.alloc (.cells #[.int .i64 l0, .int .i64 e0, .int .i64 r0] 28)).drew = w2 at hS ⊢
      obtain ⟨sb, hsb⟩ : ∃ sb, sb = w1.heap.size := ⟨_, rfl⟩
      rw [← hsb] at hS ⊢
      replace hsb := Lib.hid hsb
      go_wp2_with fail
      go_meet
      case rel => exact ⟨sb, rfl, rfl, hS⟩
  case rest =>
    obtain ⟨sb, rfl, rfl, hS⟩ := hcut
    clear c0 c1 c2' c3 c4 cl cl0 hg1 ha1
    obtain ⟨c0, c1, c2', c3, cl0, cl⟩ := hS.facts
    have hcase : (decide ((40 : Int) < (m : Int)) = false ∧ decide (40 < m) = false ∧ m' = m) ∨ (decide ((40 : Int) < (m : Int)) = true ∧ decide (40 < m) = true ∧ m' = 40 ∧ 40 ≤ c2) := by
      have := hmn.out
      by_cases h : m ≤ 40
      · exact .inl ⟨by simp; omega, by simp; omega, by omega⟩
      · exact .inr ⟨by simp; omega, by simp; omega, by omega, by omega⟩
    clear hmn
    rcases hcase with ⟨d1, d2, rfl⟩ | ⟨d1, d2, rfl, h40c⟩
    all_goals
      go_wp2_with fail
      refine (hpa.out _ hS.bel).mono ?_
      rintro x w3 ⟨v, fa, rfl, hof, hia, b3⟩
      obtain ⟨aa, ca, rfl, hsa⟩ := hof.sla
      clear hof
      replace hS := hS.below b3
      have hbel3 := hS.bel
      clear c0 c1 c2' c3 cl0 cl b3 hpa
      obtain ⟨c0, c1, c2', c3, cl0, cl⟩ := hS.facts
      obtain ⟨na, hna⟩ : ∃ na, na = fa.length := ⟨_, rfl⟩
      rw [← hna] at ⊢
      replace hna := Lib.hid hna
      replace hia := Lib.hid hia
      dsimp only
      go_wp2_with fail
      refine (hP.out [⟨l0, ⟨e0, r0⟩⟩] 1 (some ⟨w3.heap.size, 0, none⟩) (w3.heap.size + 1) _ (hbel3.alloc hbel3.size _) (by simp) (by have := hbel3.size; omega) (stamp_one (Blk.new _ _ _) (by simp) hw0.out) (by simp)).mono ?_
      rintro x w4 ⟨v, fb, rfl, hof, hib, b4⟩
      obtain ⟨ab, cb, rfl, hsb2⟩ := hof.sla
      clear hof
      have b34 : Below w3.heap.size w3 w4 := (below_alloc3' w3 _).trans (b4.mono (by simp))
      replace hS := hS.below b34
      have hbel4 := hS.bel
      clear c0 c1 c2' c3 cl0 cl b4
      obtain ⟨c0, c1, c2', c3, cl0, cl⟩ := hS.facts
      obtain ⟨nb, hnb⟩ : ∃ nb, nb = fb.length := ⟨_, rfl⟩
      rw [← hnb] at ⊢
      replace hnb := Lib.hid hnb
      replace hib := Lib.hid hib
      dsimp only
      go_upto_region 8 with fail
      clear d1 d2
      go_cut [11] from 35 to 43 (fun s11 wx => ∃ ac cc fc, s11 = .slice ac fc.length cc ∧ SlA wx.heap.size 2 (RTime wx.heap.size) wx ac cc fc ∧ IsFront (timesS ops loc (L' ++ [⟨l0, ⟨e0, r0⟩⟩])) fc ∧ Below w4.heap.size w4 wx)
      case first =>
        refine wp_region_tree (fun wx => wx.cell? ⟨w.heap.size, 0, none⟩ = some (.slice ao n cap) ∧ wx.cell? ⟨sb, 0, none⟩ = some (.int .i64 l0) ∧ wx.cell? ⟨sb, 1, none⟩ = some (.int .i64 e0) ∧ wx.cell? ⟨sb, 2, none⟩ = some (.int .i64 r0)) 8 10 (by kernel_rfl) rfl (by kernel_rfl) (fun d _ _ _ _ h => by cases d <;> exact h) (⟨c0, c1, c2', c3⟩) (fun opz T hOps hT hTok hHeld => ?_)
        refine wpTree_world ?_
        intro wz hwz
        have b4 : Below w4.heap.size w4 wz := by rw [hwz]; exact (Below.refl _ _).drew
        replace hS := hS.below b4
        clear hwz c0 c1 c2' c3 hHeld
        (refine wpTree_q 0 hTok hOps (by kernel_rfl) rfl rfl ⟨?_, ?_, ?_⟩; rotate_left; (focus (intro wx hSx; (try dsimp only at hSx); go_simp; (try with_reducible rfl))); (simp only [Act.put, List.setIfInBounds_toArray, List.set_cons_zero, List.set_cons_succ]))
        (refine wpTree_q 2 hTok hOps (by kernel_rfl) rfl rfl ⟨?_, ?_, ?_⟩; rotate_left; (focus (intro wx hSx; (try dsimp only at hSx); go_simp; (try with_reducible rfl))); (simp only [Act.put, List.setIfInBounds_toArray, List.set_cons_zero, List.set_cons_succ]))
        (refine wpTree_q 4 hTok hOps (by kernel_rfl) rfl rfl ⟨?_, ?_, ?_⟩; rotate_left; (focus (intro wx hSx; (try dsimp only at hSx); go_simp; (try with_reducible rfl))); (simp only [Act.put, List.setIfInBounds_toArray, List.set_cons_zero, List.set_cons_succ]))
        (refine wpTree_q 7 hTok hOps (by kernel_rfl) rfl rfl ⟨?_, ?_, ?_⟩; rotate_left; (focus (intro wx hSx; (try dsimp only at hSx); go_simp; (try with_reducible rfl))); (simp only [Act.put, List.setIfInBounds_toArray, List.set_cons_zero, List.set_cons_succ]))
        refine wpTree_2 1 5 hOps (by kernel_rfl) (by decide) (by decide) rfl rfl (fun K' hK => ?_) (fun K' hK => ?_)
        · go_simp
          replace hS := hS.below (below_alloc3' wz (.cells #[] 28))
          refine hK.out _ _ hS.hold ?_
          clear hK K'
          try simp only [Act.put, List.setIfInBounds_toArray, List.set_cons_zero, List.set_cons_succ]
          refine wpTree_world ?_
          intro wy hwy
          rw [← hwy] at hS
          have hE : Blk wy (wz).heap.size #[] 28 := by rw [hwy]; exact Blk.new _ _ _
          have bzy : Below (wz).heap.size wz wy := by rw [hwy]; exact below_alloc3' _ _
          have hzs := b4.size
          replace b4 := b4.trans (bzy.mono hzs)
          obtain ⟨eb, hebq⟩ : ∃ eb, eb = (wz).heap.size := ⟨_, rfl⟩
          rw [← hebq] at hE hzs ⊢
          replace hebq := Lib.hid hebq
          clear hwy
          refine wpTree_2 3 5 hOps (by kernel_rfl) (by decide) (by decide) rfl rfl (fun K' hK => ?_) (fun K' hK => ?_)
          · refine step_app_sla wy rfl _ _ 33 rfl Try.underlying33 hi hz0 hz1 hz2 rfl (by decide) (enc := encS) (xs := []) (ys := L') (B := w.heap.size) (base := w4.heap.size) rfl (own_empty hE hzs) (by rw [← hm'.out]; rfl) (es_of (imp_stamps hl' hS.bel)) encS_len encS_one
              (by rw [← hm'.out]; unfold maxLen; simp <;> omega) (by rw [← hm'.out]; simp <;> omega) b4.size (fun v5 wx hown hgr => ?_)
            replace hS := hS.grow hgr (B := w4.heap.size) (fun g hg => by have e : some eb = some g := hg; simp at e; omega) cl cl0 b4.size
            replace b4 := Below.grown b4 hgr b4.size (fun g hg => by have e : some eb = some g := hg; simp at e; omega)
            refine hK.out _ _ hS.hold ?_
            clear hK K'
            try simp only [Act.put, List.setIfInBounds_toArray, List.set_cons_zero, List.set_cons_succ]
            rw [List.nil_append] at hown
            refine wpTree_1 5 hOps (by kernel_rfl) (by decide) rfl (fun K' hK => ?_)
            go_simp
            replace hS := hS.below (below_alloc3' wx (.cells #[.int .i64 l0, .int .i64 e0, .int .i64 r0] 28))
            refine hK.out _ _ hS.hold ?_
            clear hK K'
            try simp only [Act.put, List.setIfInBounds_toArray, List.set_cons_zero, List.set_cons_succ]
            refine wpTree_world ?_
            intro wv hwy
            rw [← hwy] at hS
            have hO : Blk wv (wx).heap.size #[.int .i64 l0, .int .i64 e0, .int .i64 r0] 28 := by rw [hwy]; exact Blk.new _ _ _
            have bzy : Below (wx).heap.size wx wv := by rw [hwy]; exact below_alloc3' _ _
            replace b4 := b4.trans (bzy.mono b4.size)
            obtain ⟨ob, hobq⟩ : ∃ ob, ob = (wx).heap.size := ⟨_, rfl⟩
            rw [← hobq] at hO ⊢
            replace hobq := Lib.hid hobq
            clear hwy
            replace hown := hown.below bzy (Nat.le_refl _)
            refine wpTree_1 6 hOps (by kernel_rfl) (by decide) rfl (fun K' hK => ?_)
            refine step_app_sla wv rfl _ _ 33 rfl Try.underlying33 hi hz0 hz1 hz2 rfl (by decide) (enc := encS) (xs := L') (ys := [⟨l0, ⟨e0, r0⟩⟩]) (B := (wv).heap.size) (base := w4.heap.size) rfl hown rfl (es_of (stamp_one hO hO.lt hw0.out)) encS_len encS_one
              (by rw [← hm'.out]; unfold maxLen; simp <;> omega) (by rw [← hm'.out]; simp <;> omega) b4.size (fun v6 wu hown6 hgr6 => ?_)
            replace hS := hS.grow hgr6 (B := w4.heap.size) (fun g hg => (hown.lt g hg).1) cl cl0 b4.size
            replace b4 := Below.grown b4 hgr6 b4.size (fun g hg => (hown.lt g hg).1)
            refine hK.out _ _ hS.hold ?_
            clear hK K'
            try simp only [Act.put, List.setIfInBounds_toArray, List.set_cons_zero, List.set_cons_succ]
            refine wpTree_nil hOps (by kernel_rfl) ?_
            refine hT.out _ _ ?_
            simp only [List.drop_succ_cons, List.drop_zero]
            obtain ⟨am, cm, rfl, hsm⟩ := hown6.sla encS_len (fun x hx => hwL.out x hx (wu).heap.size wu)
            have hPc := hP.out (L' ++ [⟨l0, ⟨e0, r0⟩⟩]) cm am (wu).heap.size wu hS.bel (Nat.le_refl _) hS.bel.size hsm (by rw [List.length_append, ← hm'.out]; simp <;> omega)
            obtain ⟨n6, hn6⟩ : ∃ n6, n6 = (L' ++ [(⟨l0, ⟨e0, r0⟩⟩ : TStamp)]).length := ⟨_, rfl⟩
            rw [← hn6] at hPc ⊢
            replace hn6 := Lib.hid hn6
            clear hown6 hgr6 hsm hown
            try clear hgr
            try clear bzy
            obtain ⟨c0, c1, c2', c3, cl0', cl'⟩ := hS.facts
            go_wp2_with fail
            refine hPc.mono ?_
            rintro x w7 ⟨v, fc, rfl, hof, hic, b7⟩
            obtain ⟨ac, cc, rfl, hsc⟩ := hof.sla
            dsimp only
            go_wp2_with fail
            go_meet
            case rel => exact ⟨ac, cc, fc, rfl, hsc, hic, b4.trans (b7.mono b4.size)⟩
          · go_simp
            replace hS := hS.below (below_alloc3' wy (.cells #[.int .i64 l0, .int .i64 e0, .int .i64 r0] 28))
            refine hK.out _ _ hS.hold ?_
            clear hK K'
            try simp only [Act.put, List.setIfInBounds_toArray, List.set_cons_zero, List.set_cons_succ]
            refine wpTree_world ?_
            intro wx hwy
            rw [← hwy] at hS
            have hO : Blk wx (wy).heap.size #[.int .i64 l0, .int .i64 e0, .int .i64 r0] 28 := by rw [hwy]; exact Blk.new _ _ _
            have bzy : Below (wy).heap.size wy wx := by rw [hwy]; exact below_alloc3' _ _
            replace b4 := b4.trans (bzy.mono b4.size)
            obtain ⟨ob, hobq⟩ : ∃ ob, ob = (wy).heap.size := ⟨_, rfl⟩
            rw [← hobq] at hO ⊢
            replace hobq := Lib.hid hobq
            clear hwy
            have hne : ob ≠ eb := by have := hE.lt; have := hobq.out; omega
            replace hE := hE.below bzy hE.lt
            clear bzy
            refine wpTree_1 3 hOps (by kernel_rfl) (by decide) rfl (fun K' hK => ?_)
            refine step_app_sla wx rfl _ _ 33 rfl Try.underlying33 hi hz0 hz1 hz2 rfl (by decide) (enc := encS) (xs := []) (ys := L') (B := w.heap.size) (base := w4.heap.size) rfl (own_empty hE hzs) (by rw [← hm'.out]; rfl) (es_of (imp_stamps hl' hS.bel)) encS_len encS_one
              (by rw [← hm'.out]; unfold maxLen; simp <;> omega) (by rw [← hm'.out]; simp <;> omega) b4.size (fun v5 wv hown hgr => ?_)
            replace hS := hS.grow hgr (B := w4.heap.size) (fun g hg => by have e : some eb = some g := hg; simp at e; omega) cl cl0 b4.size
            replace b4 := Below.grown b4 hgr b4.size (fun g hg => by have e : some eb = some g := hg; simp at e; omega)
            refine hK.out _ _ hS.hold ?_
            clear hK K'
            try simp only [Act.put, List.setIfInBounds_toArray, List.set_cons_zero, List.set_cons_succ]
            rw [List.nil_append] at hown
            replace hO := blk_grown' hgr hO (fun h => by have e : some eb = some ob := h; simp at e; omega)
            refine wpTree_1 6 hOps (by kernel_rfl) (by decide) rfl (fun K' hK => ?_)
            refine step_app_sla wv rfl _ _ 33 rfl Try.underlying33 hi hz0 hz1 hz2 rfl (by decide) (enc := encS) (xs := L') (ys := [⟨l0, ⟨e0, r0⟩⟩]) (B := (wv).heap.size) (base := w4.heap.size) rfl hown rfl (es_of (stamp_one hO hO.lt hw0.out)) encS_len encS_one
              (by rw [← hm'.out]; unfold maxLen; simp <;> omega) (by rw [← hm'.out]; simp <;> omega) b4.size (fun v6 wu hown6 hgr6 => ?_)
            replace hS := hS.grow hgr6 (B := w4.heap.size) (fun g hg => (hown.lt g hg).1) cl cl0 b4.size
            replace b4 := Below.grown b4 hgr6 b4.size (fun g hg => (hown.lt g hg).1)
            refine hK.out _ _ hS.hold ?_
            clear hK K'
            try simp only [Act.put, List.setIfInBounds_toArray, List.set_cons_zero, List.set_cons_succ]
            refine wpTree_nil hOps (by kernel_rfl) ?_
            refine hT.out _ _ ?_
            simp only [List.drop_succ_cons, List.drop_zero]
            obtain ⟨am, cm, rfl, hsm⟩ := hown6.sla encS_len (fun x hx => hwL.out x hx (wu).heap.size wu)
            have hPc := hP.out (L' ++ [⟨l0, ⟨e0, r0⟩⟩]) cm am (wu).heap.size wu hS.bel (Nat.le_refl _) hS.bel.size hsm (by rw [List.length_append, ← hm'.out]; simp <;> omega)
            obtain ⟨n6, hn6⟩ : ∃ n6, n6 = (L' ++ [(⟨l0, ⟨e0, r0⟩⟩ : TStamp)]).length := ⟨_, rfl⟩
            rw [← hn6] at hPc ⊢
            replace hn6 := Lib.hid hn6
            clear hown6 hgr6 hsm hown
            try clear hgr
            try clear bzy
            obtain ⟨c0, c1, c2', c3, cl0', cl'⟩ := hS.facts
            go_wp2_with fail
            refine hPc.mono ?_
            rintro x w7 ⟨v, fc, rfl, hof, hic, b7⟩
            obtain ⟨ac, cc, rfl, hsc⟩ := hof.sla
            dsimp only
            go_wp2_with fail
            go_meet
            case rel => exact ⟨ac, cc, fc, rfl, hsc, hic, b4.trans (b7.mono b4.size)⟩
        · go_simp
          replace hS := hS.below (below_alloc3' wz (.cells #[.int .i64 l0, .int .i64 e0, .int .i64 r0] 28))
          refine hK.out _ _ hS.hold ?_
          clear hK K'
          try simp only [Act.put, List.setIfInBounds_toArray, List.set_cons_zero, List.set_cons_succ]
          refine wpTree_world ?_
          intro wy hwy
          rw [← hwy] at hS
          have hO : Blk wy (wz).heap.size #[.int .i64 l0, .int .i64 e0, .int .i64 r0] 28 := by rw [hwy]; exact Blk.new _ _ _
          have bzy : Below (wz).heap.size wz wy := by rw [hwy]; exact below_alloc3' _ _
          replace b4 := b4.trans (bzy.mono b4.size)
          obtain ⟨ob, hobq⟩ : ∃ ob, ob = (wz).heap.size := ⟨_, rfl⟩
          rw [← hobq] at hO ⊢
          replace hobq := Lib.hid hobq
          clear hwy
          clear bzy
          refine wpTree_1 1 hOps (by kernel_rfl) (by decide) rfl (fun K' hK => ?_)
          go_simp
          replace hS := hS.below (below_alloc3' wy (.cells #[] 28))
          refine hK.out _ _ hS.hold ?_
          clear hK K'
          try simp only [Act.put, List.setIfInBounds_toArray, List.set_cons_zero, List.set_cons_succ]
          refine wpTree_world ?_
          intro wx hwy
          rw [← hwy] at hS
          have hE : Blk wx (wy).heap.size #[] 28 := by rw [hwy]; exact Blk.new _ _ _
          have bzy : Below (wy).heap.size wy wx := by rw [hwy]; exact below_alloc3' _ _
          have hzs := b4.size
          replace b4 := b4.trans (bzy.mono hzs)
          obtain ⟨eb, hebq⟩ : ∃ eb, eb = (wy).heap.size := ⟨_, rfl⟩
          rw [← hebq] at hE hzs ⊢
          replace hebq := Lib.hid hebq
          clear hwy
          have hne : ob ≠ eb := by have := hO.lt; have := hebq.out; omega
          replace hO := hO.below bzy hO.lt
          refine wpTree_1 3 hOps (by kernel_rfl) (by decide) rfl (fun K' hK => ?_)
          refine step_app_sla wx rfl _ _ 33 rfl Try.underlying33 hi hz0 hz1 hz2 rfl (by decide) (enc := encS) (xs := []) (ys := L') (B := w.heap.size) (base := w4.heap.size) rfl (own_empty hE hzs) (by rw [← hm'.out]; rfl) (es_of (imp_stamps hl' hS.bel)) encS_len encS_one
            (by rw [← hm'.out]; unfold maxLen; simp <;> omega) (by rw [← hm'.out]; simp <;> omega) b4.size (fun v5 wv hown hgr => ?_)
          replace hS := hS.grow hgr (B := w4.heap.size) (fun g hg => by have e : some eb = some g := hg; simp at e; omega) cl cl0 b4.size
          replace b4 := Below.grown b4 hgr b4.size (fun g hg => by have e : some eb = some g := hg; simp at e; omega)
          refine hK.out _ _ hS.hold ?_
          clear hK K'
          try simp only [Act.put, List.setIfInBounds_toArray, List.set_cons_zero, List.set_cons_succ]
          rw [List.nil_append] at hown
          replace hO := blk_grown' hgr hO (fun h => by have e : some eb = some ob := h; simp at e; omega)
          refine wpTree_1 6 hOps (by kernel_rfl) (by decide) rfl (fun K' hK => ?_)
          refine step_app_sla wv rfl _ _ 33 rfl Try.underlying33 hi hz0 hz1 hz2 rfl (by decide) (enc := encS) (xs := L') (ys := [⟨l0, ⟨e0, r0⟩⟩]) (B := (wv).heap.size) (base := w4.heap.size) rfl hown rfl (es_of (stamp_one hO hO.lt hw0.out)) encS_len encS_one
            (by rw [← hm'.out]; unfold maxLen; simp <;> omega) (by rw [← hm'.out]; simp <;> omega) b4.size (fun v6 wu hown6 hgr6 => ?_)
          replace hS := hS.grow hgr6 (B := w4.heap.size) (fun g hg => (hown.lt g hg).1) cl cl0 b4.size
          replace b4 := Below.grown b4 hgr6 b4.size (fun g hg => (hown.lt g hg).1)
          refine hK.out _ _ hS.hold ?_
          clear hK K'
          try simp only [Act.put, List.setIfInBounds_toArray, List.set_cons_zero, List.set_cons_succ]
          refine wpTree_nil hOps (by kernel_rfl) ?_
          refine hT.out _ _ ?_
          simp only [List.drop_succ_cons, List.drop_zero]
          obtain ⟨am, cm, rfl, hsm⟩ := hown6.sla encS_len (fun x hx => hwL.out x hx (wu).heap.size wu)
          have hPc := hP.out (L' ++ [⟨l0, ⟨e0, r0⟩⟩]) cm am (wu).heap.size wu hS.bel (Nat.le_refl _) hS.bel.size hsm (by rw [List.length_append, ← hm'.out]; simp <;> omega)
          obtain ⟨n6, hn6⟩ : ∃ n6, n6 = (L' ++ [(⟨l0, ⟨e0, r0⟩⟩ : TStamp)]).length := ⟨_, rfl⟩
          rw [← hn6] at hPc ⊢
          replace hn6 := Lib.hid hn6
          clear hown6 hgr6 hsm hown
          try clear hgr
          try clear bzy
          obtain ⟨c0, c1, c2', c3, cl0', cl'⟩ := hS.facts
          go_wp2_with fail
          refine hPc.mono ?_
          rintro x w7 ⟨v, fc, rfl, hof, hic, b7⟩
          obtain ⟨ac, cc, rfl, hsc⟩ := hof.sla
          dsimp only
          go_wp2_with fail
          go_meet
          case rel => exact ⟨ac, cc, fc, rfl, hsc, hic, b4.trans (b7.mono b4.size)⟩
      case rest =>
        clear c0 c1 c2' c3 cl0 cl
        obtain ⟨ac, cc, fc, rfl, hsc, hic, b7⟩ := hcut
        have hbw := hbel4.trans (b7.mono hbel4.size)
        have h37 : Below w3.heap.size w3 wc := b34.trans (b7.mono b34.size)
        have hsa7 := imp_times' (imp_times hsa h37) h37.size
        have hsb7 := imp_times' (imp_times hsb2 b7) b7.size
        have hcA : ∀ x ∈ fa, coversT fc x = true := fun x hx => by rw [hic.covers x, timesS_append, coversT_append, covers_mem hia.out hx]; rfl
        have hcB : ∀ x ∈ fb, coversT fc x = true := fun x hx => by rw [hic.covers x, timesS_append, coversT_append, covers_mem hib.out hx, Bool.or_true]
        have hcC : ∀ x ∈ fc, (coversT fa x || coversT fb x) = true := fun x hx => by rw [hia.out.covers x, hib.out.covers x, ← coversT_append, ← timesS_append]; exact covers_mem hic hx
        replace hcA := Lib.hid hcA
        replace hcB := Lib.hid hcB
        replace hcC := Lib.hid hcC
        obtain ⟨nc, hnc⟩ : ∃ nc, nc = fc.length := ⟨_, rfl⟩
        rw [← hnc] at ⊢
        replace hnc := Lib.hid hnc
        have hn1 := hsa7.len
        have hn2 := hsb7.len
        have hn3 := hsc.len
        rw [← hna.out] at hn1
        rw [← hnb.out] at hn2
        rw [← hnc.out] at hn3
        clear h37 b7 hS hbel4 b34 hbel3 hsa hsb2 hic hia hib hP
        go_wp2_with fail
        go_loopw [12] (fun i wr => ∃ j : Nat, j ≤ na ∧ i = .int .i64 j ∧ Below wc.heap.size wc wr) (fun i _ => na - (intOf i).toNat)
        case atStart => exact ⟨0, Nat.zero_le _, rfl, Below.refl _ _⟩
        case round =>
          obtain ⟨j, hj, rfl, hbr⟩ := hrel
          by_cases hjn : j < na
          · have hjf : j < (fa).length := by rw [← (hna).out]; exact hjn
            obtain ⟨b1, o1, rfl, hb1, _⟩ := (hsa7).addr (by omega)
            obtain ⟨x, hx⟩ : ∃ x, (fa)[j] = x := ⟨_, rfl⟩
            have hx2 := Lib.hid hx
            obtain ⟨q0, q1, _, _⟩ := RTime.at (imp_times hsa7 hbr) hjf hx
            have hcv := rcovers_any fc x ac cc wr wc.heap.size hbr.size (imp_times hsc hbr)
            rw [(hcA).out x (hx ▸ List.getElem_mem hjf), ← hnc.out] at hcv
            clear hx
            go_wp2_with fail
            refine hcv.mono ?_
            rintro e w8 ⟨rfl, b8⟩
            dsimp only
            go_wp2_with fail
            go_roundw
            case rel => exact ⟨j + 1, by omega, by go_num, hbr.trans (b8.mono hbr.size)⟩
            case measure => simp [intOf]; omega
          · obtain ⟨w5, hw5⟩ : ∃ w5, w5 = wr := ⟨_, rfl⟩
            rw [← hw5] at hbr ⊢
            clear hw5
            go_wp2_with fail
            go_loopw [13] (fun i wr => ∃ j : Nat, j ≤ nb ∧ i = .int .i64 j ∧ Below wc.heap.size wc wr) (fun i _ => nb - (intOf i).toNat)
            case atStart => exact ⟨0, Nat.zero_le _, rfl, hbr⟩
            case round =>
              clear hbr
              obtain ⟨j, hj, rfl, hbr⟩ := hrel
              by_cases hjn : j < nb
              · have hjf : j < (fb).length := by rw [← (hnb).out]; exact hjn
                obtain ⟨b1, o1, rfl, hb1, _⟩ := (hsb7).addr (by omega)
                obtain ⟨x, hx⟩ : ∃ x, (fb)[j] = x := ⟨_, rfl⟩
                have hx2 := Lib.hid hx
                obtain ⟨q0, q1, _, _⟩ := RTime.at (imp_times hsb7 hbr) hjf hx
                have hcv := rcovers_any fc x ac cc wr wc.heap.size hbr.size (imp_times hsc hbr)
                rw [(hcB).out x (hx ▸ List.getElem_mem hjf), ← hnc.out] at hcv
                clear hx
                go_wp2_with fail
                refine hcv.mono ?_
                rintro e w8 ⟨rfl, b8⟩
                dsimp only
                go_wp2_with fail
                go_roundw
                case rel => exact ⟨j + 1, by omega, by go_num, hbr.trans (b8.mono hbr.size)⟩
                case measure => simp [intOf]; omega
              · obtain ⟨w6, hw6⟩ : ∃ w6, w6 = wr := ⟨_, rfl⟩
                rw [← hw6] at hbr ⊢
                clear hw6
                go_wp2_with fail
                go_loopw [14] (fun i wr => ∃ j : Nat, j ≤ nc ∧ i = .int .i64 j ∧ Below wc.heap.size wc wr) (fun i _ => nc - (intOf i).toNat)
                case atStart => exact ⟨0, Nat.zero_le _, rfl, hbr⟩
                case round =>
                  clear hbr
                  obtain ⟨j, hj, rfl, hbr⟩ := hrel
                  by_cases hjn : j < nc
                  · have hjf : j < (fc).length := by rw [← (hnc).out]; exact hjn
                    obtain ⟨b1, o1, rfl, hb1, _⟩ := (hsc).addr (by omega)
                    obtain ⟨x, hx⟩ : ∃ x, (fc)[j] = x := ⟨_, rfl⟩
                    have hx2 := Lib.hid hx
                    obtain ⟨q0, q1, _, _⟩ := RTime.at (imp_times hsc hbr) hjf hx
                    have hcx := hcC.out x (hx ▸ List.getElem_mem hjf)
                    have hcv := rcovers_any fa x aa ca wr wc.heap.size hbr.size (imp_times hsa7 hbr)
                    have hcw := fun W hb => rcovers_any fb x ab cb W wc.heap.size (Below.size hb) (imp_times hsb7 hb)
                    rw [← hna.out] at hcv
                    rw [← hnb.out] at hcw
                    generalize coversT fa x = va at hcx hcv
                    generalize coversT fb x = vb at hcx hcw
                    clear hx
                    go_wp2_with fail
                    refine hcv.mono ?_
                    rintro e w8 ⟨rfl, b8⟩
                    replace hbr := hbr.trans (b8.mono hbr.size)
                    dsimp only
                    cases va with
                    | true =>
                      go_wp2_with fail
                      go_roundw
                      case rel => exact ⟨j + 1, by omega, by go_num, hbr⟩
                      case measure => simp [intOf]; omega
                    | false =>
                      rw [Bool.false_or] at hcx
                      subst hcx
                      obtain ⟨g0, g1, _, _⟩ := RTime.at (imp_times hsc hbr) hjf hx2.out
                      go_wp2_with fail
                      refine (hcw _ hbr).mono ?_
                      rintro e w9 ⟨rfl, b9⟩
                      dsimp only
                      go_wp2_with fail
                      go_roundw
                      case rel => exact ⟨j + 1, by omega, by go_num, hbr.trans (b9.mono hbr.size)⟩
                      case measure => simp [intOf]; omega
                  · have hbz := hbw.trans (hbr.mono hbw.size)
                    go_wp2_with fail
                    go_ret
                    exact ⟨rfl, hbz⟩
theorem at_agg {w : World} {B : Nat} {cs : Array Value} {x : TMillracelaw17At} (h : RMillracelaw17At B w (Value.cells (.agg cs)).toList x) :
    cs = #[.int .i64 x.fStamp.fLoc, .int .i64 x.fStamp.fT.fEpoch, .int .i64 x.fStamp.fT.fRound, .int .i64 x.fLoc] ∧ (Lit.int .i64 x.fStamp.fLoc).wf = true ∧ (Lit.int .i64 x.fStamp.fT.fEpoch).wf = true ∧ (Lit.int .i64 x.fStamp.fT.fRound).wf = true := by
  obtain ⟨h0, h1, h2, h3, _⟩ := h
  refine ⟨?_, h1, h2, h3⟩
  cases cs
  simpa [Value.cells] using h0
theorem more_row {w : World} (cs : Array Value) (x : TGraph) (hx : RGraph w.heap.size w (Value.cells (.agg cs)).toList x) (a1 : Option Addr) (len1 cap1 : Nat) (x1 : List TStamp)
    (h1 : RSl w.heap.size 3 (RStamp w.heap.size) w (Value.cells (.slice a1 len1 cap1)).toList x1) (c2 : Array Value) (x2 : TMillracelaw17At) (h2 : RMillracelaw17At w.heap.size w (Value.cells (.agg c2)).toList x2) :
    Calls Try.prog 6 #[.agg cs, .slice a1 len1 cap1, .agg c2] w fun e w' => e = .returned (.bool true) ∧ Below w.heap.size w w' := by
  obtain ⟨ao, cap, rfl, hs⟩ := graph_agg hx
  obtain ⟨rfl, hw⟩ := at_agg h2
  obtain ⟨a, k, he, hsl⟩ := h1
  obtain ⟨rfl, rfl, rfl⟩ : a1 = a ∧ len1 = x1.length ∧ cap1 = k := by simpa [Value.cells] using he
  exact more_walk x.fOps cap ao x1 _ _ _ _ _ _ w hs hsl hw
end Go.Proofs.Ytbiakolkcikeiaa
