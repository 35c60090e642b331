/- Gossip: Do. -/
import Derived.Test.YtjmbafcpbagpdaaGreatJ10
namespace Go.Proofs.YtjmbafcpbagpdaaGreat
open Go.RowKit Go.Shelf Go.Maps
set_option linter.unusedVariables false
set_option linter.unusedSimpArgs false
theorem eqlK_nil (u : World) (m cap : Nat) : (binOp BinOp.eql 25 (.slice none m cap) (.slice none 0 0)).run Tryz.prog u = .ok (.bool true) u := by kernel_rfl
theorem eqlK_some (u : World) (a : Addr) (m cap : Nat) : (binOp BinOp.eql 25 (.slice (some a) m cap) (.slice none 0 0)).run Tryz.prog u = .ok (.bool false) u := by kernel_rfl
attribute [local go_sem] eqlK_nil eqlK_some
theorem below_allocJ (w : World) (o : Obj) : Below w.heap.size w (w.alloc o) := (Below.refl _ _).alloc (Nat.le_refl _) _

set_option maxRecDepth 100000 in
set_option maxHeartbeats 1000000 in
theorem cloneK (l : List TCount) (ao : Option Addr) (cap B : Nat) (w : World) (hB : B ≤ w.heap.size) (hx : SlA B 4 (RCount B) w ao cap l) (hz : l.length * 32 ≤ 140737488355328) :
    Calls Tryz.prog 34 #[.slice ao l.length cap] w fun e w' => Below w.heap.size w w' ∧ ∃ v, e = .returned v ∧ OwnL encK w' w.heap.size 67 4 v l := by
  obtain ⟨jK, hiK, hK0, hK1, hK2⟩ := info_parts infoK
  obtain ⟨m, hm⟩ : ∃ m, m = l.length := ⟨_, rfl⟩
  rw [← hm]
  cases ao with
  | none =>
    have hm0 : l = [] := by
      cases l with
      | nil => rfl
      | cons a r =>
        obtain ⟨b, off, e, _⟩ := hx.addr (by simp)
        cases e
    subst hm0
    simp only [List.length_nil] at hm
    subst hm
    go_enter Tryz.func34, Tryz.ntmps34
    go_wp2_with fail
    go_ret
    exact ⟨Below.refl _ _, _, rfl, OwnL.nil _ _ _ _ _⟩
  | some a =>
    replace hm := Lib.hid hm
    go_enter Tryz.func34, Tryz.ntmps34
    go_wp2_with (at_builtin; refine Shut.out ?ka)
    unfold Shut
    have hown0 : OwnL encK (w.alloc (.cells #[] 67)) w.heap.size 67 4 (.slice (some ⟨w.heap.size, 0, none⟩) 0 0) [] := OwnL.of_blk (xs := []) (cap := 0) (Blk.new w #[] 67) (Nat.le_refl _) (Nat.le_refl 0) (by unfold maxLen; omega) rfl rfl rfl
    have hii2 : SlA B 4 (fun _ cs x => cs = encK x) (w.alloc (.cells #[] 67)) (some a) cap l := hx.imp ((below_allocJ w _).mono hB) (Nat.le_refl _) (fun _ _ _ h => h.1)
    refine wpList_app_sla (xs := []) (ys := l) (enc := encK) (base := w.heap.size) _ rfl _ _ 25 rfl Tryz.underlying25 hiK hK0 hK1 hK2 rfl (by decide) rfl hown0 (by show Value.slice (some a) m cap = _; rw [hm.out]) hii2 encK_len encK_one (by unfold maxLen; simp; omega) (by simp; omega) (by simp) (fun v3 w3 hown3 hgr3 => ?_)
    rw [List.nil_append] at hown3
    have hb23 : Below w.heap.size w w3 := (below_allocJ w (.cells #[] 67)).grown hgr3 (by simp) (fun g hg => by simp [Act.eval, Value.ownBlock] at hg; omega)
    clear hown0 hii2 hgr3
    go_wp2_with fail
    go_ret
    exact ⟨hb23, _, rfl, hown3⟩
theorem slaChgJ {α : Type} {B sz : Nat} {E E' : World → List Value → α → Prop} {w w' : World} {ao : Option Addr} {cap : Nat} {xs : List α} {S : Nat → Prop} (h : SlA B sz E w ao cap xs) (hc : Chg S w w') (hB : B ≤ w.heap.size) (hn : xs ≠ [] → ∀ a, ao = some a → ¬ S a.block) (hE : ∀ cs x, x ∈ xs → E w cs x → E' w' cs x) : SlA B sz E' w' ao cap xs := by
  obtain ⟨h1, h2, h3, h4⟩ := h
  refine ⟨h1, h2, h3, fun hne => ?_⟩
  obtain ⟨b, off, e, hb, h5⟩ := h4 hne
  refine ⟨b, off, e, hb, fun i hi => ?_⟩
  obtain ⟨cs, h6, h7, h8⟩ := h5 i hi
  exact ⟨cs, h6, fun j hj => (hc.cell (p := ⟨b, off + (i * sz + j), none⟩) (Nat.lt_of_lt_of_le hb hB) (hn hne ⟨b, off, none⟩ e)).trans (h7 j hj), hE cs _ (List.getElem_mem hi) h8⟩
theorem Gos.mono {w : World} {A U gb N N' M : Nat} {X : Nat → Prop} {p : GP} {ops : List TOp} {m : GM} (h : Gos w A U X gb p ops m N M) (hN : N ≤ N') : Gos w A U X gb p ops m N' M :=
  ⟨h.n1, h.n8, h.blk, h.vws, h.gr, fun i hi => ⟨(h.trs i hi).1.mono hN, (h.trs i hi).2⟩, h.dis, h.dg, h.dv, h.dgr, h.dtr, h.inT, h.inG, h.xU, h.uw, h.ok⟩
/-- What a call of Do leaves. -/
def DoP (w : World) (A U : Nat) (X : Nat → Prop) (gb : Nat) (p : GP) (ops : List TOp) (m : GM) (N M : Nat) (w' : World) : Prop := Chg (Foot A U X) w w' ∧ ∃ X', (∀ j, X' j → X j ∨ w.heap.size ≤ j) ∧ Gos w' A U X' gb p ops m N M
theorem doBad {w w' : World} {A U gb N M : Nat} {X : Nat → Prop} {p : GP} {ops : List TOp} {m : GM} {k : Int} {l : List TCount} {e : Int} (hG : Gos w A U X gb p ops m N M) (hb : Below w.heap.size w w') (hE : doE ops m k l = e) (he : e ≠ 0) :
    Ending.returned (.int .i64 e) = Ending.returned (.int .i64 (doE ops m k l)) ∧ DoP w A U X gb p ops (doM ops m k l) (N + l.length) M w' := by
  refine ⟨by rw [hE], (Chg.of_below hb).mono (fun k hk e => absurd hk (by omega)), X, fun j hj => .inl hj, ?_⟩
  unfold doM
  rw [if_neg (by rw [hE]; exact he)]
  exact (hG.below hb).mono (Nat.le_add_right _ _)
def GM.part (m : GM) (k i : Nat) (l : List TCount) : GM :=
  ⟨m.n, fun j => if j = 0 then addF (m.c 0) l else m.c j, fun j => if k * 8 ≤ j ∧ j < k * 8 + i then m.wy j ++ [l] else m.wy j⟩
theorem way_snoc {w w7 : World} {U M : Nat} {X X' : Nat → Prop} {v v' u : Value} {l : List TCount} {ps : List (Value × List TCount)} {us : List Value} (hus : us = ps.map Prod.fst) (ho : OffV w U 25 v us) (hli : ∀ q ∈ ps, LiK w U X q.1 q.2 M) (hc : Chg (fun k => v.ownBlock = some k) w w7) (hX : ∀ k, X k → X' k) (h7 : OffV w7 U 25 v' (us ++ [u])) (hv' : ∀ b, v'.ownBlock = some b → X' b) (hu : LiK w7 U X' u l M) : WayV w7 U X' v' (ps.map Prod.snd ++ [l]) M := by
  subst hus
  refine ⟨hv', ps ++ [(u, l)], by rw [List.map_append]; exact h7, by rw [List.map_append]; rfl, fun q hq => ?_⟩
  rcases List.mem_append.1 hq with hq | hq
  · refine ((hli q hq).chg hc (fun b hb hs => ?_)).sub hX
    rcases (hli q hq).own.form with ⟨e, _⟩ | ⟨g, cap, cells, e, h8, _⟩
    · rw [e] at hb; simp [Value.ownBlock] at hb
    · rw [e] at hb
      simp only [Value.ownBlock, Option.some.injEq] at hb
      subst hb
      exact ho.ne_blk h8 (by decide) hs
  · rw [List.mem_singleton.1 hq]
    exact hu
theorem infoL : (Tryz.prog.info? 25).map (fun i => (i.zero, i.size, i.bytes)) = some (some (.slice none 0 0), 1, 24) := by kernel_rfl
theorem Ways.below {w w' : World} {U M : Nat} {X : Nat → Prop} {ws : List Value} {wy : Nat → List (List TCount)} (h : Ways w U X ws wy M) (hb : Below w.heap.size w w') : Ways w' U X ws wy M :=
  ⟨h.len, fun i v hv => by
    have h1 := h.at' i v hv
    exact h1.chg2 (Chg.of_below hb) (fun b hb2 e => by have := h1.lt b hb2; omega) (fun b hs ⟨cells, hc⟩ => by have := hc.lt; omega), h.ne⟩

set_option maxRecDepth 100000 in
set_option maxHeartbeats 4000000 in
theorem do_any (k : Int) (l : List TCount) (la : Option Addr) (lc : Nat) {A U gb N M : Nat} {X : Nat → Prop} {p : GP} {ops : List TOp} {m : GM} (w : World) (hG : Gos w A U X gb p ops m N M) (hpg : p.gops = ops) (hl : SlA w.heap.size 4 (RCount w.heap.size) w la lc l) (hz : l.length * 32 ≤ 140737488355328) (hzc : N + l.length ≤ 70368744177664) (hlM : l.length ≤ M) (hlF : l ≠ [] → ∀ a, la = some a → ¬ Foot A U X a.block) :
    Calls Tryz.prog 7 #[.pointer (some ⟨gb, 0, none⟩), .int .i64 k, .slice la l.length lc] w fun e w' => e = .returned (.int .i64 (doE ops m k l)) ∧ DoP w A U X gb p ops (doM ops m k l) (N + l.length) M w' := by
  obtain ⟨jL, hiL, hL0, hL1, hL2⟩ := info_parts infoL
  obtain ⟨ao, cap, hgv, hs⟩ := hG.gr.sla
  rw [hpg] at hgv hs
  obtain ⟨ws, hB, hW⟩ := hG.blk
  obtain ⟨⟨cs, hT, hcs, hcl⟩, ht1, ht2⟩ := hG.trs 0 (Nat.zero_le _)
  have hn8 := hG.n8
  have hok := hG.ok
  have hgw : gb < w.heap.size := hB.lt
  have c0 : w.cell? ⟨gb, 0, none⟩ = some (.slice ao ops.length cap) := by rw [← hgv]; exact hB.cellAt rfl
  have c1 : w.cell? ⟨gb, 1, none⟩ = some (.pointer (some ⟨(p.tp 0).tb, 0, none⟩)) := hB.cellAt rfl
  have c2 : w.cell? ⟨gb, 2, none⟩ = some (.slice (some ⟨p.vb, 0, none⟩) m.n p.vc) := hB.cellAt rfl
  have hwc : ∀ i, i < 64 → ∃ ao cap, w.cell? ⟨gb, 3 + i, none⟩ = some (.slice ao (m.wy i).length cap) := fun i hi => by
    obtain ⟨v, hv⟩ : ∃ v, ws[i]? = some v := ⟨_, List.getElem?_eq_getElem (by rw [hW.len]; exact hi)⟩
    obtain ⟨a2, c2, e, _⟩ := (hW.at' i v hv).slice
    exact ⟨a2, c2, by rw [← e]; exact hB.cellAt ((gcells_at p m.n ws i).trans hv)⟩
  have hth := there_any k gb p.vb m.n p.vc w c2
  have hgo := fun cl ce cr W (hb : Below w.heap.size w W) => Good_any ops cap ao cl ce cr w.heap.size W hb.size (imp_ops hs hb)
  rw [hok] at hgo
  have hst := fun W (hb : Below w.heap.size w W) => stands_any l la lc (gb := gb) W ⟨Below.refl _ _, (hb.cell (p := ⟨gb, 0, none⟩) hgw).trans c0, (hb.cell (p := ⟨gb, 1, none⟩) hgw).trans c1, imp_ops2 hs hb, hT.below hb⟩ (hl.imp hb hb.size (fun _ _ _ h => h.imp hb hb.size)) hz
  have hup := fun W (hb : Below w.heap.size w W) => update_any l la lc W (hT.below hb) (hl.imp hb hb.size (fun _ _ _ h => h.imp hb hb.size)) hz (by omega)
  rw [hcs] at hst
  have hue := updF_cs ops cs l
  rw [hcs] at hue
  obtain ⟨ue, hueE⟩ : ∃ ue, ue = updE ops cs l := ⟨_, rfl⟩
  rw [← hueE] at hue hup
  have hlen := hl.len
  obtain ⟨q, hq⟩ : ∃ q, q = l.length := ⟨_, rfl⟩
  rw [← hq] at hlen hz hup hst ⊢
  obtain ⟨n, hn⟩ : ∃ n, n = m.n := ⟨_, rfl⟩
  rw [← hn] at hn8 c2 hth
  obtain ⟨no, hno⟩ : ∃ no, no = ops.length := ⟨_, rfl⟩
  rw [← hno] at c0 hgo
  obtain ⟨tb, htb⟩ : ∃ tb, tb = (p.tp 0).tb := ⟨_, rfl⟩
  rw [← htb] at c1 hup
  have hfin : ∀ (e : Int) (w' : World), doE ops m k l = e → e ≠ 0 → Below w.heap.size w w' → (Ending.returned (.int .i64 e) = Ending.returned (.int .i64 (doE ops m k l)) ∧ DoP w A U X gb p ops (doM ops m k l) (N + l.length) M w') := fun e w' h1 h2 h3 => doBad hG h3 h1 h2
  rw [← hq] at hfin
  replace hq := Lib.hid hq
  replace hn := Lib.hid hn
  replace hno := Lib.hid hno
  replace htb := Lib.hid htb
  replace hup := Lib.hid hup
  replace hst := Lib.hid hst
  replace hgo := Lib.hid hgo
  replace hfin := Lib.hid hfin
  replace hue := Lib.hid hue
  replace hueE := Lib.hid hueE
  replace hcs := Lib.hid hcs
  replace hgv := Lib.hid hgv
  replace hok := Lib.hid hok
  replace hwc := Lib.hid hwc
  replace hG := Lib.hid hG
  clear hT hB hW ht1 ht2 hs
  by_cases hk : 0 ≤ k ∧ k < n
  rotate_left
  · have hE : doE ops m k l = 1 := by unfold doE; rw [if_pos (by rw [← hn.out]; exact hk)]
    rw [decide_eq_false hk] at hth
    replace hE := Lib.hid hE
    clear hk
    go_enter Tryz.func7, Tryz.ntmps7
    go_wp2_with fail
    refine hth.mono ?_
    rintro e w' ⟨rfl, hww⟩
    rw [hww]
    clear hww w'
    dsimp only
    go_wp2_with fail
    go_ret
    exact hfin.out _ _ hE.out (by decide) (Below.refl _ _)
  have hE0 : doE ops m k l = if l.all (okC ops) = false then 1 else if standsF ops (m.c 0) l = false then 9 else if ∃ j, j < m.n ∧ 4096 ≤ (m.wy (k.toNat * 8 + j)).length then 2 else if updF ops (m.c 0) l ≠ 0 then 1 else 0 := by
    unfold doE; rw [if_neg (by rw [← hn.out]; simpa using hk)]
  rw [decide_eq_true hk] at hth
  obtain ⟨kk, rfl⟩ : ∃ kk : Nat, k = kk := ⟨k.toNat, by omega⟩
  have hkn : kk < n := by omega
  have hk8 : kk < 8 := by omega
  rw [Int.toNat_natCast] at hE0
  replace hE0 := Lib.hid hE0
  clear hk
  go_enter Tryz.func7, Tryz.ntmps7
  go_wp2_with fail
  refine hth.mono ?_
  rintro e w' ⟨rfl, hww⟩
  rw [hww]
  clear hww w'
  dsimp only
  go_wp2_with fail
  clear hth
  go_loopw [22] (fun x22 wr => ∃ i : Nat, i ≤ q ∧ x22 = .int .i64 i ∧ Below w.heap.size w wr ∧ Hid (∀ j (h : j < l.length), j < i → okC ops l[j] = true)) (fun x22 _ => q - (intOf x22).toNat)
  case atStart => exact ⟨0, Nat.zero_le _, rfl, Below.refl _ _, Lib.hid (fun j _ h => by omega)⟩
  case round =>
    obtain ⟨i, him, rfl, hbr, hpre⟩ := hrel
    by_cases hi : i < q
    · have hix : i < l.length := by rw [← hq.out]; exact hi
      obtain ⟨b2, off2, rfl, hb2l, _⟩ := hl.addr (by omega)
      obtain ⟨c, hc⟩ : ∃ c, l[i] = c := ⟨_, rfl⟩
      obtain ⟨e0, e1, e2, e3, _⟩ := RCount.at (hl.imp hbr (Nat.le_refl _) (fun _ _ _ h => h.imp hbr (Nat.le_refl _))) hix hc
      have hcm : c ∈ l := by rw [← hc]; exact List.getElem_mem hix
      have hno1 : okC ops c = false → doE ops m kk l = 1 := fun h => by
        rw [hE0.out, if_pos]
        rw [List.all_eq_false]
        exact ⟨c, hcm, by rw [h]; simp⟩
      have hnext : okC ops c = true → Hid (∀ j (h : j < l.length), j < i + 1 → okC ops l[j] = true) := fun hf => Lib.hid (fun j h hj => by
        by_cases hji : j = i
        · subst hji; rw [hc]; exact hf
        · exact hpre.out j h (by omega))
      obtain ⟨⟨cl, ⟨ce, cr⟩⟩, cN⟩ := c
      dsimp only at e0 e1 e2 e3
      have hokc : okC ops ⟨⟨cl, ⟨ce, cr⟩⟩, cN⟩ = (decide (-2147483648 ≤ cN) && decide (cN ≤ 2147483648) && goodS ops cl ce cr) := rfl
      have hb2w : b2 < wr.heap.size := Nat.lt_of_lt_of_le hb2l hbr.size
      have hwr3 := hbr.size
      replace hno1 := Lib.hid hno1
      replace hnext := Lib.hid hnext
      replace hokc := Lib.hid hokc
      clear hpre hc hcm
      go_upto_region 8 with fail
      refine Code.wp_world ?_
      intro w5 hw5
      have h5 : Chg (fun _ => False) wr w5 := by rw [hw5]; exact (Chg.refl _ _).alloc _
      have hA5 : Blk w5 wr.heap.size #[.int .i64 cl, .int .i64 ce, .int .i64 cr, .int .i64 cN] 67 := by rw [hw5]; exact Blk.new _ _ _
      have hb5 : Below w.heap.size w w5 := hbr.trans (h5.below hwr3 (fun _ _ h => h))
      obtain ⟨z, hz0⟩ : ∃ z, z = wr.heap.size := ⟨_, rfl⟩
      rw [← hz0] at hA5 ⊢
      have s0 := hA5.cellAt (i := 0) (v := .int .i64 cl) rfl
      have s1 := hA5.cellAt (i := 1) (v := .int .i64 ce) rfl
      have s2 := hA5.cellAt (i := 2) (v := .int .i64 cr) rfl
      have s3 := hA5.cellAt (i := 3) (v := .int .i64 cN) rfl
      have d0 := (hb5.cell (p := ⟨gb, 0, none⟩) hgw).trans c0
      have hAl := hA5.lt
      clear hw5 h5 e0 e1 e2 e3 hb2w hbr hwr3 hz0
      by_cases hn1 : cN < -2147483648
      · have d1 : decide (cN < -2147483648) = true := by simpa using hn1
        have hE := hno1.out (by
          rw [hokc.out]
          have : decide (-2147483648 ≤ cN) = false := by simp; omega
          rw [this]
          rfl)
        replace hE := Lib.hid hE
        clear hnext hno1 hokc hn1
        refine wp_region_tree (fun wx => wx.cell? ⟨z, 3, none⟩ = some (.int .i64 cN)) 15 18 (by kernel_rfl) rfl (by kernel_rfl) (fun d _ _ _ _ h => by cases d <;> exact h) (s3) (fun opz T hOps hT hTok hHeld => ?_)
        (refine wpTree_q 0 hTok hOps (by kernel_rfl) rfl rfl ⟨?_, ?_, ?_⟩; rotate_left; (focus (intro wx hSx; (try dsimp only at hSx); go_simp; (try with_reducible rfl))); (simp only [Act.put, List.setIfInBounds_toArray, List.set_cons_zero, List.set_cons_succ]))
        (refine wpTree_q 1 hTok hOps (by kernel_rfl) rfl rfl ⟨?_, ?_, ?_⟩; rotate_left; (focus (intro wx hSx; (try dsimp only at hSx); go_simp; (try with_reducible rfl))); (simp only [Act.put, List.setIfInBounds_toArray, List.set_cons_zero, List.set_cons_succ]))
        (refine wpTree_q 2 hTok hOps (by kernel_rfl) rfl rfl ⟨?_, ?_, ?_⟩; rotate_left; (focus (intro wx hSx; (try dsimp only at hSx); go_simp; (try with_reducible rfl))); (simp only [Act.put, List.setIfInBounds_toArray, List.set_cons_zero, List.set_cons_succ]))
        (refine wpTree_q 3 hTok hOps (by kernel_rfl) rfl rfl ⟨?_, ?_, ?_⟩; rotate_left; (focus (intro wx hSx; (try dsimp only at hSx); go_simp; (try with_reducible rfl))); (simp only [Act.put, List.setIfInBounds_toArray, List.set_cons_zero, List.set_cons_succ]))
        (refine wpTree_qn 4 hTok hOps (by kernel_rfl) rfl rfl ?_; (try simp only [Act.put, List.setIfInBounds_toArray, List.set_cons_zero, List.set_cons_succ]))
        (refine wpTree_qn 5 hTok hOps (by kernel_rfl) rfl rfl ?_; (try simp only [Act.put, List.setIfInBounds_toArray, List.set_cons_zero, List.set_cons_succ]))
        (refine wpTree_qn 6 hTok hOps (by kernel_rfl) rfl rfl ?_; (try simp only [Act.put, List.setIfInBounds_toArray, List.set_cons_zero, List.set_cons_succ]))
        (refine wpTree_q 7 hTok hOps (by kernel_rfl) rfl rfl ⟨?_, ?_, ?_⟩; rotate_left; (focus (intro wx hSx; (try dsimp only at hSx); go_simp; (try with_reducible rfl))); (simp only [Act.put, List.setIfInBounds_toArray, List.set_cons_zero, List.set_cons_succ]))
        (refine wpTree_q 8 hTok hOps (by kernel_rfl) rfl rfl ⟨?_, ?_, ?_⟩; rotate_left; (focus (intro wx hSx; (try dsimp only at hSx); go_simp; (try with_reducible rfl))); (simp only [Act.put, List.setIfInBounds_toArray, List.set_cons_zero, List.set_cons_succ]))
        (refine wpTree_qn 9 hTok hOps (by kernel_rfl) rfl rfl ?_; (try simp only [Act.put, List.setIfInBounds_toArray, List.set_cons_zero, List.set_cons_succ]))
        (refine wpTree_qn 10 hTok hOps (by kernel_rfl) rfl rfl ?_; (try simp only [Act.put, List.setIfInBounds_toArray, List.set_cons_zero, List.set_cons_succ]))
        (refine wpTree_qn 11 hTok hOps (by kernel_rfl) rfl rfl ?_; (try simp only [Act.put, List.setIfInBounds_toArray, List.set_cons_zero, List.set_cons_succ]))
        (refine wpTree_qn 12 hTok hOps (by kernel_rfl) rfl rfl ?_; (try simp only [Act.put, List.setIfInBounds_toArray, List.set_cons_zero, List.set_cons_succ]))
        (refine wpTree_qn 13 hTok hOps (by kernel_rfl) rfl rfl ?_; (try simp only [Act.put, List.setIfInBounds_toArray, List.set_cons_zero, List.set_cons_succ]))
        (refine wpTree_qn 14 hTok hOps (by kernel_rfl) rfl rfl ?_; (try simp only [Act.put, List.setIfInBounds_toArray, List.set_cons_zero, List.set_cons_succ]))
        refine wpTree_nil hOps (by kernel_rfl) ?_
        refine hT.out _ _ ?_
        simp only [List.drop_succ_cons, List.drop_zero]
        clear hOps hT hTok
        try clear hHeld
        have hbd : Below w.heap.size w w5.drew := hb5.drew
        go_wp2_with fail
        go_ret
        exact hfin.out _ _ hE.out (by decide) hbd
      · have d1 : decide (cN < -2147483648) = false := by simpa using hn1
        by_cases hn2 : 2147483648 < cN
        · have d2 : decide (2147483648 < cN) = true := by simpa using hn2
          have hE := hno1.out (by
            rw [hokc.out]
            have : decide (cN ≤ 2147483648) = false := by simp; omega
            rw [this, Bool.and_false]
            rfl)
          replace hE := Lib.hid hE
          clear hnext hno1 hokc hn1 hn2
          refine wp_region_tree (fun wx => wx.cell? ⟨z, 3, none⟩ = some (.int .i64 cN)) 15 18 (by kernel_rfl) rfl (by kernel_rfl) (fun d _ _ _ _ h => by cases d <;> exact h) (s3) (fun opz T hOps hT hTok hHeld => ?_)
          (refine wpTree_q 0 hTok hOps (by kernel_rfl) rfl rfl ⟨?_, ?_, ?_⟩; rotate_left; (focus (intro wx hSx; (try dsimp only at hSx); go_simp; (try with_reducible rfl))); (simp only [Act.put, List.setIfInBounds_toArray, List.set_cons_zero, List.set_cons_succ]))
          (refine wpTree_q 1 hTok hOps (by kernel_rfl) rfl rfl ⟨?_, ?_, ?_⟩; rotate_left; (focus (intro wx hSx; (try dsimp only at hSx); go_simp; (try with_reducible rfl))); (simp only [Act.put, List.setIfInBounds_toArray, List.set_cons_zero, List.set_cons_succ]))
          (refine wpTree_q 2 hTok hOps (by kernel_rfl) rfl rfl ⟨?_, ?_, ?_⟩; rotate_left; (focus (intro wx hSx; (try dsimp only at hSx); go_simp; (try with_reducible rfl))); (simp only [Act.put, List.setIfInBounds_toArray, List.set_cons_zero, List.set_cons_succ]))
          (refine wpTree_q 3 hTok hOps (by kernel_rfl) rfl rfl ⟨?_, ?_, ?_⟩; rotate_left; (focus (intro wx hSx; (try dsimp only at hSx); go_simp; (try with_reducible rfl))); (simp only [Act.put, List.setIfInBounds_toArray, List.set_cons_zero, List.set_cons_succ]))
          (refine wpTree_qg 4 hTok hOps (by kernel_rfl) rfl rfl ⟨?_, ?_, ?_⟩; rotate_left; (focus (intro wx hSx; (try dsimp only at hSx); go_simp; (try with_reducible rfl))); (simp only [Act.put, List.setIfInBounds_toArray, List.set_cons_zero, List.set_cons_succ]))
          (refine wpTree_qg 5 hTok hOps (by kernel_rfl) rfl rfl ⟨?_, ?_, ?_⟩; rotate_left; (focus (intro wx hSx; (try dsimp only at hSx); go_simp; (try with_reducible rfl))); (simp only [Act.put, List.setIfInBounds_toArray, List.set_cons_zero, List.set_cons_succ]))
          (refine wpTree_qg 6 hTok hOps (by kernel_rfl) rfl rfl ⟨?_, ?_, ?_⟩; rotate_left; (focus (intro wx hSx; (try dsimp only at hSx); go_simp; (try with_reducible rfl))); (simp only [Act.put, List.setIfInBounds_toArray, List.set_cons_zero, List.set_cons_succ]))
          (refine wpTree_q 7 hTok hOps (by kernel_rfl) rfl rfl ⟨?_, ?_, ?_⟩; rotate_left; (focus (intro wx hSx; (try dsimp only at hSx); go_simp; (try with_reducible rfl))); (simp only [Act.put, List.setIfInBounds_toArray, List.set_cons_zero, List.set_cons_succ]))
          (refine wpTree_q 8 hTok hOps (by kernel_rfl) rfl rfl ⟨?_, ?_, ?_⟩; rotate_left; (focus (intro wx hSx; (try dsimp only at hSx); go_simp; (try with_reducible rfl))); (simp only [Act.put, List.setIfInBounds_toArray, List.set_cons_zero, List.set_cons_succ]))
          (refine wpTree_qn 9 hTok hOps (by kernel_rfl) rfl rfl ?_; (try simp only [Act.put, List.setIfInBounds_toArray, List.set_cons_zero, List.set_cons_succ]))
          (refine wpTree_qn 10 hTok hOps (by kernel_rfl) rfl rfl ?_; (try simp only [Act.put, List.setIfInBounds_toArray, List.set_cons_zero, List.set_cons_succ]))
          (refine wpTree_qn 11 hTok hOps (by kernel_rfl) rfl rfl ?_; (try simp only [Act.put, List.setIfInBounds_toArray, List.set_cons_zero, List.set_cons_succ]))
          (refine wpTree_qn 12 hTok hOps (by kernel_rfl) rfl rfl ?_; (try simp only [Act.put, List.setIfInBounds_toArray, List.set_cons_zero, List.set_cons_succ]))
          (refine wpTree_qn 13 hTok hOps (by kernel_rfl) rfl rfl ?_; (try simp only [Act.put, List.setIfInBounds_toArray, List.set_cons_zero, List.set_cons_succ]))
          (refine wpTree_qn 14 hTok hOps (by kernel_rfl) rfl rfl ?_; (try simp only [Act.put, List.setIfInBounds_toArray, List.set_cons_zero, List.set_cons_succ]))
          refine wpTree_nil hOps (by kernel_rfl) ?_
          refine hT.out _ _ ?_
          simp only [List.drop_succ_cons, List.drop_zero]
          clear hOps hT hTok
          try clear hHeld
          have hbd : Below w.heap.size w w5.drew := hb5.drew
          go_wp2_with fail
          go_ret
          exact hfin.out _ _ hE.out (by decide) hbd
        · have d2 : decide (2147483648 < cN) = false := by simpa using hn2
          refine wp_region_tree (fun wx => wx.cell? ⟨gb, 0, none⟩ = some (.slice ao no cap) ∧ wx.cell? ⟨z, 0, none⟩ = some (.int .i64 cl) ∧ wx.cell? ⟨z, 1, none⟩ = some (.int .i64 ce) ∧ wx.cell? ⟨z, 2, none⟩ = some (.int .i64 cr) ∧ wx.cell? ⟨z, 3, none⟩ = some (.int .i64 cN)) 15 18 (by kernel_rfl) rfl (by kernel_rfl) (fun d _ _ _ _ h => by cases d <;> exact h) (⟨d0, s0, s1, s2, s3⟩) (fun opz T hOps hT hTok hHeld => ?_)
          (refine wpTree_q 0 hTok hOps (by kernel_rfl) rfl rfl ⟨?_, ?_, ?_⟩; rotate_left; (focus (intro wx hSx; (try dsimp only at hSx); go_simp; (try with_reducible rfl))); (simp only [Act.put, List.setIfInBounds_toArray, List.set_cons_zero, List.set_cons_succ]))
          (refine wpTree_q 1 hTok hOps (by kernel_rfl) rfl rfl ⟨?_, ?_, ?_⟩; rotate_left; (focus (intro wx hSx; (try dsimp only at hSx); go_simp; (try with_reducible rfl))); (simp only [Act.put, List.setIfInBounds_toArray, List.set_cons_zero, List.set_cons_succ]))
          (refine wpTree_q 2 hTok hOps (by kernel_rfl) rfl rfl ⟨?_, ?_, ?_⟩; rotate_left; (focus (intro wx hSx; (try dsimp only at hSx); go_simp; (try with_reducible rfl))); (simp only [Act.put, List.setIfInBounds_toArray, List.set_cons_zero, List.set_cons_succ]))
          (refine wpTree_q 3 hTok hOps (by kernel_rfl) rfl rfl ⟨?_, ?_, ?_⟩; rotate_left; (focus (intro wx hSx; (try dsimp only at hSx); go_simp; (try with_reducible rfl))); (simp only [Act.put, List.setIfInBounds_toArray, List.set_cons_zero, List.set_cons_succ]))
          (refine wpTree_qg 4 hTok hOps (by kernel_rfl) rfl rfl ⟨?_, ?_, ?_⟩; rotate_left; (focus (intro wx hSx; (try dsimp only at hSx); go_simp; (try with_reducible rfl))); (simp only [Act.put, List.setIfInBounds_toArray, List.set_cons_zero, List.set_cons_succ]))
          (refine wpTree_qg 5 hTok hOps (by kernel_rfl) rfl rfl ⟨?_, ?_, ?_⟩; rotate_left; (focus (intro wx hSx; (try dsimp only at hSx); go_simp; (try with_reducible rfl))); (simp only [Act.put, List.setIfInBounds_toArray, List.set_cons_zero, List.set_cons_succ]))
          (refine wpTree_qg 6 hTok hOps (by kernel_rfl) rfl rfl ⟨?_, ?_, ?_⟩; rotate_left; (focus (intro wx hSx; (try dsimp only at hSx); go_simp; (try with_reducible rfl))); (simp only [Act.put, List.setIfInBounds_toArray, List.set_cons_zero, List.set_cons_succ]))
          (refine wpTree_q 7 hTok hOps (by kernel_rfl) rfl rfl ⟨?_, ?_, ?_⟩; rotate_left; (focus (intro wx hSx; (try dsimp only at hSx); go_simp; (try with_reducible rfl))); (simp only [Act.put, List.setIfInBounds_toArray, List.set_cons_zero, List.set_cons_succ]))
          (refine wpTree_q 8 hTok hOps (by kernel_rfl) rfl rfl ⟨?_, ?_, ?_⟩; rotate_left; (focus (intro wx hSx; (try dsimp only at hSx); go_simp; (try with_reducible rfl))); (simp only [Act.put, List.setIfInBounds_toArray, List.set_cons_zero, List.set_cons_succ]))
          (refine wpTree_qg 9 hTok hOps (by kernel_rfl) rfl rfl ⟨?_, ?_, ?_⟩; rotate_left; (focus (intro wx hSx; (try dsimp only at hSx); go_simp; (try with_reducible rfl))); (simp only [Act.put, List.setIfInBounds_toArray, List.set_cons_zero, List.set_cons_succ]))
          (refine wpTree_qg 10 hTok hOps (by kernel_rfl) rfl rfl ⟨?_, ?_, ?_⟩; rotate_left; (focus (intro wx hSx; (try dsimp only at hSx); go_simp; (try with_reducible rfl))); (simp only [Act.put, List.setIfInBounds_toArray, List.set_cons_zero, List.set_cons_succ]))
          (refine wpTree_qg 11 hTok hOps (by kernel_rfl) rfl rfl ⟨?_, ?_, ?_⟩; rotate_left; (focus (intro wx hSx; (try dsimp only at hSx); go_simp; (try with_reducible rfl))); (simp only [Act.put, List.setIfInBounds_toArray, List.set_cons_zero, List.set_cons_succ]))
          (refine wpTree_qg 12 hTok hOps (by kernel_rfl) rfl rfl ⟨?_, ?_, ?_⟩; rotate_left; (focus (intro wx hSx; (try dsimp only at hSx); go_simp; (try with_reducible rfl))); (simp only [Act.put, List.setIfInBounds_toArray, List.set_cons_zero, List.set_cons_succ]))
          (refine wpTree_qg 13 hTok hOps (by kernel_rfl) rfl rfl ⟨?_, ?_, ?_⟩; rotate_left; (focus (intro wx hSx; (try dsimp only at hSx); go_simp; (try with_reducible rfl))); (simp only [Act.put, List.setIfInBounds_toArray, List.set_cons_zero, List.set_cons_succ]))
          (refine wpTree_qg 14 hTok hOps (by kernel_rfl) rfl rfl ⟨?_, ?_, ?_⟩; rotate_left; (focus (intro wx hSx; (try dsimp only at hSx); go_simp; (try with_reducible rfl))); (simp only [Act.put, List.setIfInBounds_toArray, List.set_cons_zero, List.set_cons_succ]))
          refine wpTree_nil hOps (by kernel_rfl) ?_
          refine hT.out _ _ ?_
          simp only [List.drop_succ_cons, List.drop_zero]
          clear hOps hT hTok
          try clear hHeld
          have hbd : Below w.heap.size w w5.drew := hb5.drew
          go_wp2_with fail
          refine (hgo.out cl ce cr w5.drew hbd).mono ?_
          rintro e2 w6 ⟨rfl, hb6⟩
          have hb6' := hbd.trans (hb6.mono hbd.size)
          obtain ⟨gs, hgs⟩ : ∃ gs, gs = goodS ops cl ce cr := ⟨_, rfl⟩
          rw [← hgs] at hokc ⊢
          clear hgs hA5 hAl s0 s1 s2 s3 d0 hb6 hbd
          dsimp only
          cases gs with
          | false =>
            have hE := hno1.out (by rw [hokc.out, Bool.and_false])
            replace hE := Lib.hid hE
            clear hnext hno1 hokc hn1 hn2
            go_wp2_with fail
            go_ret
            exact hfin.out _ _ hE.out (by decide) hb6'
          | true =>
            have hst2 := hnext.out (by
              rw [hokc.out, Bool.and_true, Bool.and_eq_true, decide_eq_true_eq, decide_eq_true_eq]
              omega)
            clear hnext hno1 hokc hn1 hn2
            go_wp2_with fail
            go_roundw
            case rel => exact ⟨i + 1, by omega, by go_num, hb6', hst2⟩
            case measure => simp [intOf]; omega
    · obtain rfl : q = i := by omega
      have hgd : ∀ c ∈ l, okC ops c = true := fun c hc => by
        obtain ⟨j, hj, rfl⟩ := List.getElem_of_mem hc
        exact hpre.out j hj (by rw [hq.out]; exact hj)
      have hall : l.all (okC ops) = true := List.all_eq_true.2 hgd
      have hE1 := hE0.out
      rw [hall, if_neg (by simp)] at hE1
      replace hE1 := Lib.hid hE1
      clear hpre hgo hi him hgd hE0 hall
      go_wp2_with fail
      refine (hst.out wr hbr).mono ?_
      rintro e w3 ⟨rfl, hb3⟩
      have hb3' := hbr.trans (hb3.mono hbr.size)
      obtain ⟨ss, hss⟩ : ∃ ss, ss = standsF ops (m.c 0) l := ⟨_, rfl⟩
      rw [← hss] at hE1 ⊢
      clear hss hb3 hbr
      dsimp only
      cases ss with
      | false =>
        have hE := hE1.out
        rw [if_pos rfl] at hE
        replace hE := Lib.hid hE
        clear hE1
        go_wp2_with fail
        go_ret
        exact hfin.out _ _ hE.out (by decide) hb3'
      | true =>
        have hE2 := hE1.out
        rw [if_neg (by simp)] at hE2
        replace hE2 := Lib.hid hE2
        have d2 := (hb3'.cell (p := ⟨gb, 2, none⟩) hgw).trans c2
        clear hE1 hst
        go_wp2_with fail
        obtain ⟨w4, hw4⟩ : ∃ w4, w4 = w3 := ⟨_, rfl⟩
        go_loopw [54] (fun x54 wr => wr = w4 ∧ ∃ i : Nat, i ≤ n ∧ x54 = .int .i64 i ∧ Hid (∀ j, j < i → (m.wy (kk * 8 + j)).length < 4096)) (fun x54 _ => n - (intOf x54).toNat)
        case atStart => exact ⟨hw4.symm, 0, Nat.zero_le _, rfl, Lib.hid (fun j h => by omega)⟩
        case round =>
          obtain ⟨hwr, i, hin, rfl, hpre⟩ := hrel
          rw [hw4] at hwr
          subst hwr
          by_cases hi : i < n
          · have hi8 : i < 8 := by omega
            obtain ⟨a6, c6, hc6⟩ := hwc.out (kk * 8 + i) (by omega)
            have d6 := (hb3'.cell (p := ⟨gb, 3 + (kk * 8 + i), none⟩) hgw).trans hc6
            rw [← Nat.add_assoc] at d6
            obtain ⟨wl, hwl⟩ : ∃ wl, wl = (m.wy (kk * 8 + i)).length := ⟨_, rfl⟩
            rw [← hwl] at d6
            replace hwl := Lib.hid hwl
            clear hc6
            by_cases h4 : 4096 ≤ wl
            · have hE := hE2.out
              rw [if_pos ⟨i, by rw [← hn.out]; exact hi, by rw [← hwl.out]; exact h4⟩] at hE
              replace hE := Lib.hid hE
              have e1 : decide ((4096 : Int) ≤ (wl : Int)) = true := by simp; omega
              have e2 : decide (4096 ≤ wl) = true := by simp; omega
              clear h4 hE2
              go_wp2_with fail
              go_ret
              exact hfin.out _ _ hE.out (by decide) hb3'
            · have e1 : decide ((4096 : Int) ≤ (wl : Int)) = false := by simp; omega
              have e2 : decide (4096 ≤ wl) = false := by simp; omega
              have hp2 : Hid (∀ j, j < i + 1 → (m.wy (kk * 8 + j)).length < 4096) := Lib.hid (fun j hj => by
                by_cases hji : j = i
                · subst hji; rw [← hwl.out]; omega
                · exact hpre.out j (by omega))
              clear h4 hpre
              go_wp2_with fail
              go_roundw
              case rel => exact ⟨hw4.symm, i + 1, by omega, by go_num, hp2⟩
              case measure => simp [intOf]; omega
          · obtain rfl : n = i := by omega
            clear hi hin
            have hE3 := hE2.out
            rw [if_neg (by rintro ⟨j, h1, h2⟩; have := hpre.out j (by rw [hn.out]; exact h1); omega), ← hue.out] at hE3
            replace hE3 := Lib.hid hE3
            have d1 := (hb3'.cell (p := ⟨gb, 1, none⟩) hgw).trans c1
            clear hE2
            go_wp2_with fail
            refine (hup.out _ hb3').mono ?_
            rintro e w5 ⟨rfl, hc5, hbad5, hgood5⟩
            by_cases hu0 : ue = 0
            rotate_left
            · have hE := hE3.out
              rw [if_pos hu0] at hE
              have hb5 := hb3'.trans ((hbad5 hu0).mono hb3'.size)
              have f1 : (ue == 0) = false := by simpa using hu0
              have f2 : (ue != 0) = true := by simp [hu0]
              replace hE := Lib.hid hE
              clear hE3 hgood5 hbad5 hu0 hup
              dsimp only
              go_wp2_with fail
              go_ret
              exact hfin.out _ _ hE.out (by decide) hb5
            have hE := hE3.out
            rw [if_neg (by simpa using hu0)] at hE
            obtain ⟨cs', hT5, hcnt5, hlen5⟩ := hgood5 hu0
            have hG3 := hG.out.below hb3'
            have hG5 : Gos w5 A U X gb p ops (m.part kk 0 l) (N + l.length) M := by
              have h := hG3.upd (i := 0) (Nat.zero_le _) hc5 (cs := cs) (cs' := cs') (l := l) (N' := N + l.length) hcs.out (by omega) (by rw [← htb.out]; exact hT5) hcnt5 (by have := hq.out; omega)
              have e : m.part kk 0 l = ⟨m.n, fun j => if j = 0 then addF (m.c 0) l else m.c j, m.wy⟩ := by
                unfold GM.part
                congr 1
                funext j
                rw [if_neg (by omega)]
              rw [e]
              exact h
            have hmA : A ≤ (p.tp 0).x.mb ∧ (p.tp 0).x.mb < U := by
              have h1 := hG3.inT 0 (Nat.zero_le _)
              have h2 := (hG3.trs 0 (Nat.zero_le _)).2.2
              have h3 := hT5.bmb
              omega
            have hc5w : Chg (Foot A U X) w w5 := ((Chg.of_below hb3').mono (fun j hj e => absurd hj (by omega))).trans (hc5.mono (fun j hj e => .inl (by rw [e]; exact hmA)))
            have d2 := hG5
            obtain ⟨ws5, hB5, hW5⟩ := hG5.blk
            have d2 : w5.cell? ⟨gb, 2, none⟩ = some (.slice (some ⟨p.vb, 0, none⟩) n p.vc) := by rw [hn.out]; exact hB5.cellAt rfl
            have f1 : (ue == 0) = true := by simpa using hu0
            have f2 : (ue != 0) = false := by simp [hu0]
            replace hE := Lib.hid hE
            replace hG5 := Lib.hid hG5
            clear hE3 hgood5 hbad5 hu0 hup hT5 hcnt5 hlen5 hG3 hmA hB5 hW5 hc5 hb3' d1
            dsimp only
            go_wp2_with fail
            go_loopw [81] (fun x81 wr => ∃ (i : Nat) (Y : Nat → Prop), i ≤ n ∧ x81 = .int .i64 i ∧ Hid (Gos wr A U Y gb p ops (m.part kk i l) (N + l.length) M) ∧ Hid (Chg (Foot A U X) w wr) ∧ Hid (∀ j, Y j → X j ∨ w.heap.size ≤ j)) (fun x81 _ => n - (intOf x81).toNat)
            case atStart => exact ⟨0, X, Nat.zero_le _, rfl, hG5, Lib.hid hc5w, Lib.hid (fun j hj => .inl hj)⟩
            case round =>
              clear hG5 d2 hc5w
              obtain ⟨i, Y, hin, rfl, hGi, hcw, hY⟩ := hrel
              by_cases hi : i < n
              · have hi8 : i < 8 := by omega
                obtain ⟨ws6, hB6, hW6⟩ := hGi.out.blk
                obtain ⟨v, hv⟩ : ∃ v, ws6[kk * 8 + i]? = some v := ⟨_, List.getElem?_eq_getElem (by rw [hW6.len]; omega)⟩
                have hWv := hW6.at' _ v hv
                have hwe : (m.part kk i l).wy (kk * 8 + i) = m.wy (kk * 8 + i) := by
                  show (if _ then _ else _) = _
                  rw [if_neg (by omega)]
                rw [hwe] at hWv
                obtain ⟨hv0, ps, hoff, hps, hli⟩ := hWv
                obtain ⟨us, hus⟩ : ∃ us, us = ps.map Prod.fst := ⟨_, rfl⟩
                rw [← hus] at hoff
                have hpl : us.length < 4096 := by rw [hus, List.length_map, ← List.length_map (f := Prod.snd), hps]; exact hpre.out i hi
                obtain ⟨av, cv, hvv, _, _⟩ := hoff.slice
                have d6 : wr.cell? ⟨gb, 3 + kk * 8 + i, none⟩ = some v := by rw [Nat.add_assoc]; exact hB6.cellAt ((gcells_at p (m.part kk i l).n ws6 _).trans hv)
                have d6f : wr.frozen? ⟨gb, 3 + kk * 8 + i, none⟩ = false := hB6.frozen _
                have hlw : SlA w.heap.size 4 (RCount w.heap.size) wr la lc l := slaChgJ hl hcw.out (Nat.le_refl _) hlF (fun _ _ _ h => h)
                have hclo := cloneK l la lc w.heap.size wr.drew hcw.out.size (slaChgJ hlw ((Chg.refl (fun _ => False) wr).drew) hcw.out.size (fun _ _ _ h => h) (fun _ _ _ h => h)) (by rw [← hq.out]; exact hz)
                rw [← hq.out] at hclo
                have hgbl : gb < wr.heap.size := hB6.lt
                have hvlt := hoff.lt
                have hUw := hGi.out.uw
                replace hps := Lib.hid hps
                replace hus := Lib.hid hus
                replace hclo := Lib.hid hclo
                replace hwe := Lib.hid hwe
                replace hvv := Lib.hid hvv
                rw [hvv.out] at d6
                go_upto_region 25 with fail
                refine wp_region_tree (fun wx => wx.cell? ⟨gb, 3 + kk * 8 + i, none⟩ = some (.slice av us.length cv)) 18 20 (by kernel_rfl) rfl (by kernel_rfl) (fun d _ _ _ _ h => by cases d <;> exact h) (d6) (fun opz T hOps hT hTok hHeld => ?_)
                (refine wpTree_q 0 hTok hOps (by kernel_rfl) rfl rfl ⟨?_, ?_, ?_⟩; rotate_left; (focus (intro wx hSx; (try dsimp only at hSx); go_simp; (try with_reducible rfl))); (simp only [Act.put, List.setIfInBounds_toArray, List.set_cons_zero, List.set_cons_succ]))
                (refine wpTree_q 1 hTok hOps (by kernel_rfl) rfl rfl ⟨?_, ?_, ?_⟩; rotate_left; (focus (intro wx hSx; (try dsimp only at hSx); go_simp; (try with_reducible rfl))); (simp only [Act.put, List.setIfInBounds_toArray, List.set_cons_zero, List.set_cons_succ]))
                (refine wpTree_q 2 hTok hOps (by kernel_rfl) rfl rfl ⟨?_, ?_, ?_⟩; rotate_left; (focus (intro wx hSx; (try dsimp only at hSx); go_simp; (try with_reducible rfl))); (simp only [Act.put, List.setIfInBounds_toArray, List.set_cons_zero, List.set_cons_succ]))
                (refine wpTree_q 3 hTok hOps (by kernel_rfl) rfl rfl ⟨?_, ?_, ?_⟩; rotate_left; (focus (intro wx hSx; (try dsimp only at hSx); go_simp; (try with_reducible rfl))); (simp only [Act.put, List.setIfInBounds_toArray, List.set_cons_zero, List.set_cons_succ]))
                (refine wpTree_q 4 hTok hOps (by kernel_rfl) rfl rfl ⟨?_, ?_, ?_⟩; rotate_left; (focus (intro wx hSx; (try dsimp only at hSx); go_simp; (try with_reducible rfl))); (simp only [Act.put, List.setIfInBounds_toArray, List.set_cons_zero, List.set_cons_succ]))
                (refine wpTree_q 5 hTok hOps (by kernel_rfl) rfl rfl ⟨?_, ?_, ?_⟩; rotate_left; (focus (intro wx hSx; (try dsimp only at hSx); go_simp; (try with_reducible rfl))); (simp only [Act.put, List.setIfInBounds_toArray, List.set_cons_zero, List.set_cons_succ]))
                (refine wpTree_q 6 hTok hOps (by kernel_rfl) rfl rfl ⟨?_, ?_, ?_⟩; rotate_left; (focus (intro wx hSx; (try dsimp only at hSx); go_simp; (try with_reducible rfl))); (simp only [Act.put, List.setIfInBounds_toArray, List.set_cons_zero, List.set_cons_succ]))
                (refine wpTree_q 7 hTok hOps (by kernel_rfl) rfl rfl ⟨?_, ?_, ?_⟩; rotate_left; (focus (intro wx hSx; (try dsimp only at hSx); go_simp; (try with_reducible rfl))); (simp only [Act.put, List.setIfInBounds_toArray, List.set_cons_zero, List.set_cons_succ]))
                (refine wpTree_qg 8 hTok hOps (by kernel_rfl) rfl rfl ⟨?_, ?_, ?_⟩; rotate_left; (focus (intro wx hSx; (try dsimp only at hSx); go_simp; rw [if_pos (by omega)])); (simp only [Act.put, List.setIfInBounds_toArray, List.set_cons_zero, List.set_cons_succ]))
                (refine wpTree_qg 9 hTok hOps (by kernel_rfl) rfl rfl ⟨?_, ?_, ?_⟩; rotate_left; (focus (intro wx hSx; (try dsimp only at hSx); go_simp; rw [if_pos (by omega)])); (simp only [Act.put, List.setIfInBounds_toArray, List.set_cons_zero, List.set_cons_succ]))
                (refine wpTree_q 10 hTok hOps (by kernel_rfl) rfl rfl ⟨?_, ?_, ?_⟩; rotate_left; (focus (intro wx hSx; (try dsimp only at hSx); go_simp; (try with_reducible rfl))); (simp only [Act.put, List.setIfInBounds_toArray, List.set_cons_zero, List.set_cons_succ]))
                (refine wpTree_q 11 hTok hOps (by kernel_rfl) rfl rfl ⟨?_, ?_, ?_⟩; rotate_left; (focus (intro wx hSx; (try dsimp only at hSx); go_simp; (try with_reducible rfl))); (simp only [Act.put, List.setIfInBounds_toArray, List.set_cons_zero, List.set_cons_succ]))
                (refine wpTree_q 15 hTok hOps (by kernel_rfl) rfl rfl ⟨?_, ?_, ?_⟩; rotate_left; (focus (intro wx hSx; (try dsimp only at hSx); go_simp; (try with_reducible rfl))); (simp only [Act.put, List.setIfInBounds_toArray, List.set_cons_zero, List.set_cons_succ]))
                (refine wpTree_q 16 hTok hOps (by kernel_rfl) rfl rfl ⟨?_, ?_, ?_⟩; rotate_left; (focus (intro wx hSx; (try dsimp only at hSx); go_simp; (try with_reducible rfl))); (simp only [Act.put, List.setIfInBounds_toArray, List.set_cons_zero, List.set_cons_succ]))
                (refine wpTree_qg 17 hTok hOps (by kernel_rfl) rfl rfl ⟨?_, ?_, ?_⟩; rotate_left; (focus (intro wx hSx; (try dsimp only at hSx); go_simp; rw [if_pos (by omega)])); (simp only [Act.put, List.setIfInBounds_toArray, List.set_cons_zero, List.set_cons_succ]))
                refine wpTree_1 12 hOps (by kernel_rfl) (by decide) rfl (fun K' hK => ?_)
                go_simp
                refine hclo.out.mono ?_
                rintro e w7 ⟨hb7, u, rfl, hown7⟩
                have hb7' : Below wr.heap.size wr w7 := ((Below.refl _ _).drew).trans (hb7.mono (Nat.le_refl _))
                have d7 := (hb7'.cell (p := ⟨gb, 3 + kk * 8 + i, none⟩) hgbl).trans d6
                try dsimp only
                refine hK.out _ _ d7 ?_
                clear hK K'
                try simp only [Act.put, List.setIfInBounds_toArray, List.set_cons_zero, List.set_cons_succ]
                obtain ⟨au, cu, huv, _, _, _⟩ := hown7.slice
                rw [← hq.out] at huv
                replace huv := Lib.hid huv
                rw [huv.out]
                refine wpTree_1 13 hOps (by kernel_rfl) (by decide) rfl (fun K' hK => ?_)
                go_simp
                have hb8 : Below wr.heap.size wr (w7.alloc (.cells #[.slice au q cu] 25)) := hb7'.alloc hb7'.size _
                have hU8 : Blk (w7.alloc (.cells #[.slice au q cu] 25)) w7.heap.size #[.slice au q cu] 25 := Blk.new _ _ _
                have hown8 := hown7.alloc (.cells #[.slice au q cu] 25)
                have hoff8 := hoff.chg (Chg.of_below hb8) (fun g hg e => by have := hvlt g hg; omega)
                have d8 := (hb8.cell (p := ⟨gb, 3 + kk * 8 + i, none⟩) hgbl).trans d6
                try dsimp only
                refine hK.out _ _ d8 ?_
                clear hK K'
                try simp only [Act.put, List.setIfInBounds_toArray, List.set_cons_zero, List.set_cons_succ]
                have hs8 := hb8.size
                generalize w7.alloc (.cells #[.slice au q cu] 25) = w8 at hb8 hU8 hown8 hoff8 d8 hs8 ⊢
                refine wpTree_1 14 hOps (by kernel_rfl) (by decide) rfl (fun K' hK => ?_)
                refine step_off rfl _ _ 79 rfl Tryz.underlying79 hiL hL0 hL1 hL2 rfl (us := us) hvv.out.symm hoff8 ⟨w7.heap.size, 0, none⟩ 1 (.slice au q cu) rfl (hU8.cellAt rfl) rfl (by unfold maxLen; omega) (by omega) (by omega) (fun g k3 cap3 w9 hoff9 hgr9 hat9 => ?_)
                have hcw9 : Chg (fun j => v.ownBlock = some j) wr w9 := ((Chg.of_below hb8).mono (fun j hj e => absurd hj (by omega))).trans (Chg.of_grown hgr9)
                have hinG := hGi.out.inG
                have hgbv : ¬ v.ownBlock = some gb := fun e => by have := hvlt gb e; omega
                have d9 := (hcw9.cell (p := ⟨gb, 3 + kk * 8 + i, none⟩) hgbl hgbv).trans d6
                have hB9 := hB6.chg hcw9 hgbv
                have f9 : w9.frozen? ⟨gb, 3 + kk * 8 + i, none⟩ = false := hB9.frozen _
                have hs9 := hcw9.size
                have hs89 := hgr9.size
                have hg9 := hoff9.lt g rfl
                obtain ⟨v9, hv9⟩ : ∃ v9, v9 = Value.slice (some ⟨g, k3, none⟩) (us.length + 1) cap3 := ⟨_, rfl⟩
                have hU7 : ∀ b, (Value.slice au q cu).ownBlock = some b → wr.heap.size ≤ b ∧ b < w8.heap.size := fun b hb => by
                  have := hown8.lt b (by rw [huv.out]; exact hb)
                  exact this
                have hLi : LiK w9 U (fun j => Y j ∨ j = g ∨ (Value.slice au q cu).ownBlock = some j) (Value.slice au q cu) l M := by
                  refine ⟨?_, fun b hb => .inr (.inr hb), fun c hc => ?_, hlM⟩
                  · have h := hown8.base_le (base' := U) hUw
                    rw [huv.out] at h
                    exact h.chg (Chg.of_grown hgr9) (fun b hb e => by have := hU7 b hb; have := hvlt b e; omega)
                  · obtain ⟨j, hj, rfl⟩ := List.getElem_of_mem hc
                    obtain ⟨b2, off2, e, _, _⟩ := hl.addr (by omega)
                    subst e
                    obtain ⟨_, _, _, _, h1, h2, h3, h4⟩ := RCount.at hl hj rfl
                    exact ⟨⟨h1, h2, h3⟩, h4⟩
                have hWV := way_snoc (X' := fun j => Y j ∨ j = g ∨ (Value.slice au q cu).ownBlock = some j) hus.out hoff hli hcw9 (fun k h => .inl h) hoff9 (fun b hb => .inr (.inl (Option.some.inj hb).symm)) hLi
                rw [hps.out, ← hv9] at hWV
                have hX9 : ∀ j, (Y j ∨ j = g ∨ (Value.slice au q cu).ownBlock = some j) → Y j ∨ (wr.heap.size ≤ j ∧ j < w9.heap.size) := fun j hj => by
                  rcases hj with hj | rfl | hj
                  · exact .inl hj
                  · rcases hat9 with e | e
                    · exact .inl (hv0 _ e)
                    · exact .inr ⟨by omega, hg9.2⟩
                  · have := hU7 j hj
                    exact .inr ⟨by omega, by omega⟩
                have hG9 := hGi.out.setWay hB6 hW6 (i0 := kk * 8 + i) (by omega) hv hcw9 (fun _ h => h) (fun _ h => .inl h) hX9 hWV (fun g' hg' => by
                  rw [hv9] at hg'
                  simp only [Value.ownBlock, Option.some.injEq] at hg'
                  subst hg'
                  rcases hat9 with e | e
                  · exact .inl e
                  · exact .inr (by omega))
                have hm9 : (⟨(m.part kk i l).n, (m.part kk i l).c, fun j => if j = kk * 8 + i then m.wy (kk * 8 + i) ++ [l] else (m.part kk i l).wy j⟩ : GM) = m.part kk (i + 1) l := by
                  unfold GM.part
                  simp only [GM.mk.injEq, true_and]
                  funext j
                  by_cases hj : j = kk * 8 + i
                  · subst hj
                    rw [if_pos rfl, if_pos (by omega)]
                  · rw [if_neg hj]
                    by_cases h2 : kk * 8 ≤ j ∧ j < kk * 8 + i
                    · rw [if_pos h2, if_pos (by omega)]
                    · rw [if_neg h2, if_neg (by omega)]
                rw [hm9, ← Nat.add_assoc] at hG9
                have hc9 : Chg (Foot A U X) w (w9.setCell ⟨gb, 3 + kk * 8 + i, none⟩ v9) := hcw.out.then_new ((hcw9.mono (fun j _ e => Or.inl e)).setCell (S := fun j => v.ownBlock = some j ∨ j = gb) ⟨gb, 3 + kk * 8 + i, none⟩ v9 (fun _ => .inr rfl)) (fun j hj e => by
                  rcases e with e | rfl
                  · rcases hY.out j (hv0 j e) with h | h
                    · exact .inr h
                    · omega
                  · exact .inl hinG.1)
                have hY9 : ∀ j, (Y j ∨ j = g ∨ (Value.slice au q cu).ownBlock = some j) → X j ∨ w.heap.size ≤ j := fun j hj => by
                  have := hcw.out.size
                  rcases hX9 j hj with h | h
                  · exact hY.out j h
                  · exact .inr (by omega)
                rw [hv9] at hG9 hc9
                replace hG9 := Lib.hid hG9
                replace hc9 := Lib.hid hc9
                replace hY9 := Lib.hid hY9
                clear hoff9 hgr9 hat9 hLi hWV hX9 hm9 hv9 hU7 hcw9 hinG hgbv hB9 hs9 hs89 hg9 hoff8 hown8 hU8 d8 hb8 hs8 hown7 hb7 hb7' d7 hGi hcw hY hclo hlw hli hoff hv hB6 hW6 hwe d6 d6f hvlt
                try dsimp only
                refine hK.out _ _ d9 ?_
                clear hK K'
                try simp only [Act.put, List.setIfInBounds_toArray, List.set_cons_zero, List.set_cons_succ]
                refine wpTree_nil hOps (by kernel_rfl) ?_
                refine hT.out _ _ ?_
                simp only [List.drop_succ_cons, List.drop_zero]
                clear hOps hT hTok
                try clear hHeld
                go_wp2_with fail
                go_roundw
                case rel => exact ⟨i + 1, _, by omega, by go_num, hG9, hc9, hY9⟩
                case measure => simp [intOf]; omega
              · obtain rfl : n = i := by omega
                have hGn := hGi.out
                have hDo : doM ops m kk l = m.part kk n l := by
                  unfold doM
                  rw [if_pos hE.out, Int.toNat_natCast, hn.out]
                  rfl
                have hres : Ending.returned (.int .i64 0) = Ending.returned (.int .i64 (doE ops m kk l)) ∧ DoP w A U X gb p ops (doM ops m kk l) (N + q) M wr := by
                  rw [hDo, hE.out, hq.out]
                  exact ⟨rfl, hcw.out, Y, hY.out, hGn⟩
                replace hres := Lib.hid hres
                clear hGn hGi hcw hY
                go_wp2_with fail
                go_ret
                exact hres.out
end Go.Proofs.YtjmbafcpbagpdaaGreat

/- Gossip: what is done in a view is done in truth: plain Lean. -/
namespace Go.Proofs.YtjmbafcpbagpdaaGreat
open Go.RowKit Go.Shelf Go.Maps
set_option linter.unusedVariables false
set_option linter.unusedSimpArgs false

theorem tot_noneJ {s : TStamp} : ∀ {l : List TCount}, (∀ d ∈ l, d.fS ≠ s) → totC l s = 0
  | [], _ => rfl
  | d :: l, h => by
    have h1 := tot_noneJ (l := l) (s := s) (fun x hx => h x (by simp [hx]))
    unfold totC at h1 ⊢
    rw [List.map_cons, List.sum_cons, h1, if_neg (h d (by simp))]
    rfl
open Classical in
/-- Is s done, as these counts tell? -/
noncomputable def doneF (ops : List TOp) (c : CF) (s : TStamp) : Bool := goodS ops s.fLoc s.fT.fEpoch s.fT.fRound && decide (∀ a, 0 < c a → stands ops s a = false)
open Classical in
theorem done_cs {ops : List TOp} {cs : List (TStamp × Int)} (hn : (cs.map Prod.fst).Nodup) (s : TStamp) : doneC ops (aliveC cs) s = doneF ops (cntC cs) s := by
  unfold doneC doneF
  congr 1
  rw [Bool.eq_iff_iff]
  simp only [Bool.not_eq_true', List.any_eq_false, decide_eq_true_eq]
  constructor
  · intro h a ha
    have := h a ((alive_mem hn a).2 ha)
    simpa using this
  · intro h a ha
    have := h a ((alive_mem hn a).1 ha)
    simpa using this
end Go.Proofs.YtjmbafcpbagpdaaGreat

/- Gossip: Deliver, Waiting, Done, Front. -/
namespace Go.Proofs.YtjmbafcpbagpdaaGreat
open Go.RowKit Go.Shelf Go.Maps
set_option linter.unusedVariables false
set_option linter.unusedSimpArgs false

namespace Gos
variable {w w' : World} {A U gb N M : Nat} {X : Nat → Prop} {p : GP} {ops : List TOp} {m : GM}
theorem gcell2 (h : Gos w A U X gb p ops m N M) : w.cell? ⟨gb, 2, none⟩ = some (.slice (some ⟨p.vb, 0, none⟩) m.n p.vc) := by
  obtain ⟨ws, b1, _⟩ := h.blk
  exact b1.cellAt rfl
theorem wcell (h : Gos w A U X gb p ops m N M) {i : Nat} (hi : i < 64) : ∃ ao cap, w.cell? ⟨gb, 3 + i, none⟩ = some (.slice ao (m.wy i).length cap) := by
  obtain ⟨ws, hB, hW⟩ := h.blk
  obtain ⟨v, hv⟩ : ∃ v, ws[i]? = some v := ⟨_, List.getElem?_eq_getElem (by rw [hW.len]; exact hi)⟩
  obtain ⟨a2, c2, e, _⟩ := (hW.at' i v hv).slice
  exact ⟨a2, c2, by rw [← e]; exact hB.cellAt ((gcells_at p m.n ws i).trans hv)⟩
theorem vcell (h : Gos w A U X gb p ops m N M) {j : Nat} (hj : j < m.n) : w.cell? ⟨p.vb, j, none⟩ = some (.pointer (some ⟨(p.tp (j + 1)).tb, 0, none⟩)) := by
  obtain ⟨cs, v1, _, _, v2⟩ := h.vws
  exact v1.cellAt (v2 j hj)
theorem there (h : Gos w A U X gb p ops m N M) (k : Int) : Calls Tryz.prog 31 #[.pointer (some ⟨gb, 0, none⟩), .int .i64 k] w fun e w' => e = .returned (.bool (decide (0 ≤ k ∧ k < m.n))) ∧ w' = w := there_any k gb p.vb m.n p.vc w h.gcell2
end Gos
theorem wait_no (k j : Int) (gb : Nat) (w : World) (b1 b2 : Bool) (hb : b1 = false ∨ b2 = false) (h1 : Calls Tryz.prog 31 #[.pointer (some ⟨gb, 0, none⟩), .int .i64 k] w fun e w' => e = .returned (.bool b1) ∧ w' = w) (h2 : Calls Tryz.prog 31 #[.pointer (some ⟨gb, 0, none⟩), .int .i64 j] w fun e w' => e = .returned (.bool b2) ∧ w' = w) :
    Calls Tryz.prog 11 #[.pointer (some ⟨gb, 0, none⟩), .int .i64 k, .int .i64 j] w fun e w' => e = .returned (.int .i64 0) ∧ w' = w := by
  replace h1 := Lib.hid h1
  replace h2 := Lib.hid h2
  go_enter Tryz.func11, Tryz.ntmps11
  go_wp2_with fail
  refine h1.out.mono ?_
  rintro e w' ⟨rfl, hww⟩
  rw [hww]
  clear hww w'
  cases b1 with
  | false =>
    dsimp only
    go_wp2_with fail
    go_ret
    exact ⟨rfl, rfl⟩
  | true =>
    obtain rfl : b2 = false := hb.resolve_left (by simp)
    dsimp only
    go_wp2_with fail
    refine h2.out.mono ?_
    rintro e w' ⟨rfl, hww⟩
    rw [hww]
    clear hww w'
    dsimp only
    go_wp2_with fail
    go_ret
    exact ⟨rfl, rfl⟩
theorem wait_any (a b : Int) {w : World} {A U gb N M : Nat} {X : Nat → Prop} {p : GP} {ops : List TOp} {m : GM} (h : Gos w A U X gb p ops m N M) :
    Calls Tryz.prog 11 #[.pointer (some ⟨gb, 0, none⟩), .int .i64 a, .int .i64 b] w fun e w' => e = .returned (.int .i64 (waitN m a b)) ∧ w' = w := by
  have h8 := h.n8
  by_cases hab : (0 ≤ a ∧ a < m.n) ∧ (0 ≤ b ∧ b < m.n)
  · obtain ⟨k, rfl⟩ : ∃ k : Nat, a = k := ⟨a.toNat, by omega⟩
    obtain ⟨j, rfl⟩ : ∃ j : Nat, b = j := ⟨b.toNat, by omega⟩
    have e : waitN m k j = (m.wy (k * 8 + j)).length := by unfold waitN; rw [if_pos hab, Int.toNat_natCast, Int.toNat_natCast]
    rw [e]
    obtain ⟨ao, cap, hc⟩ := h.wcell (i := k * 8 + j) (by omega)
    refine wait_walk k j gb (by omega) (by omega) w ao _ cap (fun i hi => ?_) (by rw [Nat.add_assoc]; exact hc)
    have := h.there i
    rw [decide_eq_true (by rcases hi with rfl | rfl <;> omega)] at this
    exact this
  · have e : waitN m a b = 0 := by unfold waitN; rw [if_neg hab]
    rw [e]
    refine wait_no a b gb w _ _ ?_ (h.there a) (h.there b)
    by_cases ha : 0 ≤ a ∧ a < m.n
    · exact .inr (decide_eq_false (fun hb => hab ⟨ha, hb⟩))
    · exact .inl (decide_eq_false ha)
/-- The front of a worker's view. -/
theorem gfront_any (k loc : Int) {w : World} {A U gb N M : Nat} {X : Nat → Prop} {p : GP} {ops : List TOp} {m : GM} (h : Gos w A U X gb p ops m N M) (hN : (N + 1) * 24 ≤ 140737488355328) :
    Calls Tryz.prog 14 #[.pointer (some ⟨gb, 0, none⟩), .int .i64 k, .int .i64 loc] w fun e w' => Below w.heap.size w w' ∧
      ((0 ≤ k ∧ k < m.n) → ∃ cs v f, e = .returned v ∧ cntC cs = m.c (k.toNat + 1) ∧ (cs.map Prod.fst).Nodup ∧ OwnT w' w.heap.size v f ∧ IsFront (timesS ops loc (aliveC cs)) f) ∧ (¬ (0 ≤ k ∧ k < m.n) → e = .returned (.slice none 0 0)) := by
  have hth := h.there k
  have c2 := h.gcell2
  have h8 := h.n8
  by_cases hk : 0 ≤ k ∧ k < m.n
  · rw [decide_eq_true hk] at hth
    obtain ⟨j, rfl⟩ : ∃ j : Nat, k = j := ⟨k.toNat, by omega⟩
    have hj : j < m.n := by omega
    have cv := h.vcell hj
    obtain ⟨⟨cs, hT, hcs, hcl⟩, _, _⟩ := h.trs (j + 1) (by omega)
    have hf := tfront_any loc w hT (by omega)
    have hnd := hT.nodup
    obtain ⟨n, hn⟩ : ∃ n, n = m.n := ⟨_, rfl⟩
    obtain ⟨tb, htb⟩ : ∃ tb, tb = (p.tp (j + 1)).tb := ⟨_, rfl⟩
    obtain ⟨vb, hvb⟩ : ∃ vb, vb = p.vb := ⟨_, rfl⟩
    rw [← hn] at c2 hj h8
    rw [← htb] at cv hf
    rw [← hvb] at cv c2
    have hfin : ∀ (v : Value) (f : List TTime) (w' : World), Below w.heap.size w w' → OwnT w' w.heap.size v f → IsFront (timesS ops loc (aliveC cs)) f → (Below w.heap.size w w' ∧
      ((0 ≤ (j : Int) ∧ (j : Int) < m.n) → ∃ cs v' f, Ending.returned v = .returned v' ∧ cntC cs = m.c ((j : Int).toNat + 1) ∧ (cs.map Prod.fst).Nodup ∧ OwnT w' w.heap.size v' f ∧ IsFront (timesS ops loc (aliveC cs)) f) ∧ (¬ (0 ≤ (j : Int) ∧ (j : Int) < m.n) → Ending.returned v = .returned (.slice none 0 0))) := fun v f w' h1 h2 h3 =>
      ⟨h1, fun _ => ⟨cs, v, f, rfl, by rw [Int.toNat_natCast]; exact hcs, hnd, h2, h3⟩, fun h => absurd hk h⟩
    replace hfin := Lib.hid hfin
    replace hth := Lib.hid hth
    replace hf := Lib.hid hf
    clear h hT hcs hk hn htb hvb hnd
    go_enter Tryz.func14, Tryz.ntmps14
    go_wp2_with fail
    refine hth.out.mono ?_
    rintro e w' ⟨rfl, hww⟩
    rw [hww]
    clear hww w'
    dsimp only
    go_wp2_with fail
    refine hf.out.mono ?_
    rintro e w' ⟨v, f, rfl, h1, h2, h3⟩
    dsimp only
    go_wp2_with fail
    go_ret
    exact hfin.out v f _ h3 h1 h2
  · rw [decide_eq_false hk] at hth
    replace hk := Lib.hid hk
    replace hth := Lib.hid hth
    clear h c2 h8
    go_enter Tryz.func14, Tryz.ntmps14
    go_wp2_with fail
    refine hth.out.mono ?_
    rintro e w' ⟨rfl, hww⟩
    rw [hww]
    clear hww w'
    dsimp only
    go_wp2_with fail
    go_ret
    exact ⟨Below.refl _ _, fun h => absurd h hk.out, fun _ => rfl⟩

theorem dlvBad {w w' : World} {A U gb N M : Nat} {X : Nat → Prop} {p : GP} {ops : List TOp} {m : GM} {a b e : Int} (hG : Gos w A U X gb p ops m N M) (hb : Below w.heap.size w w') (hE : dlvE m a b = e) (he : e ≠ 0) :
    Ending.returned (.int .i64 e) = Ending.returned (.int .i64 (dlvE m a b)) ∧ Chg (Foot A U X) w w' ∧ Gos w' A U X gb p ops (dlvM ops m a b) (N + M) M := by
  refine ⟨by rw [hE], (Chg.of_below hb).mono (fun k hk e => absurd hk (by omega)), ?_⟩
  unfold dlvM
  rw [if_neg (by rw [hE]; exact he)]
  exact (hG.below hb).mono (Nat.le_add_right _ _)
/-- The first list of a way, and what the way is without it. -/
theorem Gos.first {w : World} {A U gb N M : Nat} {X : Nat → Prop} {p : GP} {ops : List TOp} {m : GM} (hG : Gos w A U X gb p ops m N M) {i : Nat} (hi : i < 64) {l : List TCount} {r : List (List TCount)} (hw : m.wy i = l :: r) :
    ∃ g k cap u, w.cell? ⟨gb, 3 + i, none⟩ = some (.slice (some ⟨g, k, none⟩) (r.length + 1) cap) ∧ r.length + 1 ≤ cap ∧ cap ≤ maxLen ∧ g < w.heap.size ∧ w.cell? ⟨g, k, none⟩ = some u ∧ LiK w U X u l M ∧
      ∀ x : Option Addr, x = (if cap = 1 then some ⟨g, k, none⟩ else some ⟨g, k + 1, none⟩) → Gos (w.setCell ⟨gb, 3 + i, none⟩ (.slice x r.length (cap - 1))) A U X gb p ops ⟨m.n, m.c, fun j => if j = i then r else m.wy j⟩ N M := by
  obtain ⟨ws, hB, hW⟩ := hG.blk
  obtain ⟨v, hv⟩ : ∃ v, ws[i]? = some v := ⟨_, List.getElem?_eq_getElem (by rw [hW.len]; exact hi)⟩
  obtain ⟨h0, ps, h1, h2, h3⟩ := hW.at' i v hv
  rw [hw] at h2
  obtain ⟨q, ps', rfl⟩ : ∃ q ps', ps = q :: ps' := by
    cases ps with
    | nil => simp at h2
    | cons q ps' => exact ⟨q, ps', rfl⟩
  rw [List.map_cons, List.cons.injEq] at h2
  rw [List.map_cons] at h1
  obtain ⟨g, k, cap, e, h4, h5, h6, h7, h8, h9⟩ := h1.first
  have hrl : (ps'.map Prod.fst).length = r.length := by rw [← h2.2, List.length_map, List.length_map]
  rw [hrl] at e h4 h9
  refine ⟨g, k, cap, q.1, by rw [← e]; exact hB.cellAt ((gcells_at p m.n ws i).trans hv), h4, h5, h7, h8, by rw [← h2.1]; exact h3 q (by simp), fun x hx => ?_⟩
  have hblk : ∀ b, (Value.slice x r.length (cap - 1)).ownBlock = some b → v.ownBlock = some b := fun b hb => by
    rw [e]
    rw [hx] at hb
    split at hb <;> simpa [Value.ownBlock] using hb
  exact hG.setWay hB hW hi hv (S := fun _ => False) (Chg.refl _ _) (fun _ h => h.elim) (fun _ h => h) (fun _ h => .inl h) ⟨fun b hb => h0 b (hblk b hb), ps', h9 x hx, h2.2, fun q' hq => h3 q' (by simp [hq])⟩ (fun b hb => .inl (hblk b hb))

set_option maxRecDepth 100000 in
set_option maxHeartbeats 4000000 in
theorem dlv_any (a b : Int) {w : World} {A U gb N M : Nat} {X : Nat → Prop} {p : GP} {ops : List TOp} {m : GM} (hG : Gos w A U X gb p ops m N M) (hM : M * 32 ≤ 140737488355328) (hNM : N + M ≤ 70368744177664) :
    Calls Tryz.prog 9 #[.pointer (some ⟨gb, 0, none⟩), .int .i64 a, .int .i64 b] w fun e w' => e = .returned (.int .i64 (dlvE m a b)) ∧ Chg (Foot A U X) w w' ∧ Gos w' A U X gb p ops (dlvM ops m a b) (N + M) M := by
  have h1 := hG.there a
  have h2 := hG.there b
  have h8 := hG.n8
  have c2 := hG.gcell2
  have hfin : ∀ (e : Int) (w' : World), dlvE m a b = e → e ≠ 0 → Below w.heap.size w w' → (Ending.returned (.int .i64 e) = Ending.returned (.int .i64 (dlvE m a b)) ∧ Chg (Foot A U X) w w' ∧ Gos w' A U X gb p ops (dlvM ops m a b) (N + M) M) := fun e w' h1 h2 h3 => dlvBad hG h3 h1 h2
  replace hfin := Lib.hid hfin
  by_cases ha : 0 ≤ a ∧ a < m.n
  rotate_left
  · have hE : dlvE m a b = 1 := by unfold dlvE; rw [if_pos (fun h => ha h.1)]
    rw [decide_eq_false ha] at h1
    replace h1 := Lib.hid h1
    replace hE := Lib.hid hE
    clear h2 hG ha c2
    go_enter Tryz.func9, Tryz.ntmps9
    go_wp2_with fail
    refine h1.out.mono ?_
    rintro e w' ⟨rfl, hww⟩
    rw [hww]
    clear hww w'
    dsimp only
    go_wp2_with fail
    go_ret
    exact hfin.out _ _ hE.out (by decide) (Below.refl _ _)
  rw [decide_eq_true ha] at h1
  by_cases hb : 0 ≤ b ∧ b < m.n
  rotate_left
  · have hE : dlvE m a b = 1 := by unfold dlvE; rw [if_pos (fun h => hb h.2)]
    rw [decide_eq_false hb] at h2
    replace h1 := Lib.hid h1
    replace h2 := Lib.hid h2
    replace hE := Lib.hid hE
    clear hG ha hb c2
    go_enter Tryz.func9, Tryz.ntmps9
    go_wp2_with fail
    refine h1.out.mono ?_
    rintro e w' ⟨rfl, hww⟩
    rw [hww]
    clear hww w'
    dsimp only
    go_wp2_with fail
    refine h2.out.mono ?_
    rintro e w' ⟨rfl, hww⟩
    rw [hww]
    clear hww w'
    dsimp only
    go_wp2_with fail
    go_ret
    exact hfin.out _ _ hE.out (by decide) (Below.refl _ _)
  rw [decide_eq_true hb] at h2
  obtain ⟨k, rfl⟩ : ∃ k : Nat, a = k := ⟨a.toNat, by omega⟩
  obtain ⟨j, rfl⟩ : ∃ j : Nat, b = j := ⟨b.toNat, by omega⟩
  have hk : k < 8 := by omega
  have hj : j < 8 := by omega
  have hjn : j < m.n := by omega
  have hE0 : dlvE m k j = if m.wy (k * 8 + j) = [] then 7 else 0 := by unfold dlvE; rw [if_neg (fun h => h ⟨ha, hb⟩), Int.toNat_natCast, Int.toNat_natCast]
  replace h1 := Lib.hid h1
  replace h2 := Lib.hid h2
  clear ha hb
  cases hw : m.wy (k * 8 + j) with
  | nil =>
    rw [hw, if_pos rfl] at hE0
    obtain ⟨ao, cap, hc⟩ := hG.wcell (i := k * 8 + j) (by omega)
    rw [hw, List.length_nil, ← Nat.add_assoc] at hc
    replace hE0 := Lib.hid hE0
    clear hG c2 hw
    go_enter Tryz.func9, Tryz.ntmps9
    go_wp2_with fail
    refine h1.out.mono ?_
    rintro e w' ⟨rfl, hww⟩
    rw [hww]
    clear hww w'
    dsimp only
    go_wp2_with fail
    refine h2.out.mono ?_
    rintro e w' ⟨rfl, hww⟩
    rw [hww]
    clear hww w'
    dsimp only
    go_wp2_with fail
    go_ret
    exact hfin.out _ _ hE0.out (by decide) (Below.refl _ _)
  | cons l r =>
    rw [hw, if_neg (by simp)] at hE0
    obtain ⟨g, kk, cap, u, d0, hrc, hcm, hgw, d1, hLi, hset⟩ := hG.first (i := k * 8 + j) (by omega) hw
    obtain ⟨lu, lc, rfl, hsl⟩ := hLi.sla
    have hlM := hLi.len
    have hLb : ∀ ad, lu = some ad → U ≤ ad.block := fun ad e => (hG.xU _ (hLi.inX ad.block (by rw [e]; rfl))).1
    obtain ⟨rl, hrl⟩ : ∃ rl, rl = r.length := ⟨_, rfl⟩
    rw [← hrl] at d0 hrc hset
    rw [← Nat.add_assoc] at d0
    have hgU := hG.inG.1.2
    have hgl : gb < w.heap.size := Nat.lt_of_lt_of_le hgU hG.uw
    have cv := hG.vcell hjn
    obtain ⟨vb, hvb⟩ : ∃ vb, vb = p.vb := ⟨_, rfl⟩
    have hvg : vb ≠ gb := by rw [hvb]; exact fun e => hG.dgr.2.2 e.symm
    obtain ⟨n, hn⟩ : ∃ n, n = m.n := ⟨_, rfl⟩
    rw [← hvb, ← hn] at c2
    rw [← hvb] at cv
    rw [← hn] at hjn h8
    have hmax : cap ≤ 9223372036854775807 := by unfold maxLen at hcm; omega
    obtain ⟨ql, hql⟩ : ∃ ql, ql = l.length := ⟨_, rfl⟩
    rw [← hql] at d1
    have ff : w.frozen? ⟨gb, 3 + k * 8 + j, none⟩ = false := by
      obtain ⟨ws, hB, _⟩ := hG.blk
      exact hB.frozen _
    have hdM : dlvM ops m k j = ⟨m.n, fun i => if i = j + 1 then nextF ops (m.c i) l else m.c i, fun i => if i = k * 8 + j then r else m.wy i⟩ := by
      unfold dlvM
      rw [if_pos hE0, Int.toNat_natCast, Int.toNat_natCast, hw]
      congr 1
      funext i
      by_cases h : i = k * 8 + j
      · subst h; rw [if_pos rfl, if_pos rfl, hw]; rfl
      · rw [if_neg h, if_neg h]
    replace hE0 := Lib.hid hE0
    replace hdM := Lib.hid hdM
    replace hrl := Lib.hid hrl
    replace hql := Lib.hid hql
    replace hvb := Lib.hid hvb
    replace hn := Lib.hid hn
    replace hset := Lib.hid hset
    have dl : decide ((rl : Int) + 1 = 0) = false := by simp; omega
    have dl2 : ((rl : Int) + 1 == 0) = false := by rw [beq_eq_false_iff_ne]; omega
    clear hw
    go_enter Tryz.func9, Tryz.ntmps9
    go_wp2_with fail
    refine h1.out.mono ?_
    rintro e w' ⟨rfl, hww⟩
    rw [hww]
    clear hww w'
    dsimp only
    go_wp2_with fail
    refine h2.out.mono ?_
    rintro e w' ⟨rfl, hww⟩
    rw [hww]
    clear hww w'
    dsimp only
    go_upto_region 8 with fail
    obtain ⟨xo, hxo⟩ : ∃ xo : Option Addr, xo = (if cap = 1 then some ⟨g, kk, none⟩ else some ⟨g, kk + 1, none⟩) := ⟨_, rfl⟩
    replace hxo := Lib.hid hxo
    refine wp_region_tree (fun wx => wx.cell? ⟨gb, 3 + k * 8 + j, none⟩ = some (.slice (some ⟨g, kk, none⟩) (rl + 1) cap)) 15 17 (by kernel_rfl) rfl (by kernel_rfl) (fun d _ _ _ _ h => by cases d <;> exact h) (d0) (fun opz T hOps hT hTok hHeld => ?_)
    (refine wpTree_q 0 hTok hOps (by kernel_rfl) rfl rfl ⟨?_, ?_, ?_⟩; rotate_left; (focus (intro wx hSx; (try dsimp only at hSx); go_simp; (try with_reducible rfl))); (simp only [Act.put, List.setIfInBounds_toArray, List.set_cons_zero, List.set_cons_succ]))
    (refine wpTree_q 1 hTok hOps (by kernel_rfl) rfl rfl ⟨?_, ?_, ?_⟩; rotate_left; (focus (intro wx hSx; (try dsimp only at hSx); go_simp; (try with_reducible rfl))); (simp only [Act.put, List.setIfInBounds_toArray, List.set_cons_zero, List.set_cons_succ]))
    (refine wpTree_q 2 hTok hOps (by kernel_rfl) rfl rfl ⟨?_, ?_, ?_⟩; rotate_left; (focus (intro wx hSx; (try dsimp only at hSx); go_simp; (try with_reducible rfl))); (simp only [Act.put, List.setIfInBounds_toArray, List.set_cons_zero, List.set_cons_succ]))
    (refine wpTree_q 3 hTok hOps (by kernel_rfl) rfl rfl ⟨?_, ?_, ?_⟩; rotate_left; (focus (intro wx hSx; (try dsimp only at hSx); go_simp; (try with_reducible rfl))); (simp only [Act.put, List.setIfInBounds_toArray, List.set_cons_zero, List.set_cons_succ]))
    (refine wpTree_q 4 hTok hOps (by kernel_rfl) rfl rfl ⟨?_, ?_, ?_⟩; rotate_left; (focus (intro wx hSx; (try dsimp only at hSx); go_simp; (try with_reducible rfl))); (simp only [Act.put, List.setIfInBounds_toArray, List.set_cons_zero, List.set_cons_succ]))
    (refine wpTree_q 5 hTok hOps (by kernel_rfl) rfl rfl ⟨?_, ?_, ?_⟩; rotate_left; (focus (intro wx hSx; (try dsimp only at hSx); go_simp; (try with_reducible rfl))); (simp only [Act.put, List.setIfInBounds_toArray, List.set_cons_zero, List.set_cons_succ]))
    (refine wpTree_q 6 hTok hOps (by kernel_rfl) rfl rfl ⟨?_, ?_, ?_⟩; rotate_left; (focus (intro wx hSx; (try dsimp only at hSx); go_simp; (try with_reducible rfl))); (simp only [Act.put, List.setIfInBounds_toArray, List.set_cons_zero, List.set_cons_succ]))
    (refine wpTree_q 7 hTok hOps (by kernel_rfl) rfl rfl ⟨?_, ?_, ?_⟩; rotate_left; (focus (intro wx hSx; (try dsimp only at hSx); go_simp; (try with_reducible rfl))); (simp only [Act.put, List.setIfInBounds_toArray, List.set_cons_zero, List.set_cons_succ]))
    (refine wpTree_qg 8 hTok hOps (by kernel_rfl) rfl rfl ⟨?_, ?_, ?_⟩; rotate_left; (focus (intro wx hSx; (try dsimp only at hSx); go_simp; rw [if_pos (by omega)])); (simp only [Act.put, List.setIfInBounds_toArray, List.set_cons_zero, List.set_cons_succ]))
    (refine wpTree_qg 9 hTok hOps (by kernel_rfl) rfl rfl ⟨?_, ?_, ?_⟩; rotate_left; (focus (intro wx hSx; (try dsimp only at hSx); go_simp; rw [if_pos (by omega)])); (simp only [Act.put, List.setIfInBounds_toArray, List.set_cons_zero, List.set_cons_succ]))
    (refine wpTree_q 10 hTok hOps (by kernel_rfl) rfl rfl ⟨?_, ?_, ?_⟩; rotate_left; (focus (intro wx hSx; (try dsimp only at hSx); go_simp; (try with_reducible rfl))); (simp only [Act.put, List.setIfInBounds_toArray, List.set_cons_zero, List.set_cons_succ]))
    (refine wpTree_qg 11 hTok hOps (by kernel_rfl) rfl rfl ⟨?_, ?_, ?_⟩; rotate_left; (focus (intro wx hSx; (try dsimp only at hSx); go_simp; rw [if_pos (by omega), ← hxo.out])); (simp only [Act.put, List.setIfInBounds_toArray, List.set_cons_zero, List.set_cons_succ]))
    (refine wpTree_q 12 hTok hOps (by kernel_rfl) rfl rfl ⟨?_, ?_, ?_⟩; rotate_left; (focus (intro wx hSx; (try dsimp only at hSx); go_simp; (try with_reducible rfl))); (simp only [Act.put, List.setIfInBounds_toArray, List.set_cons_zero, List.set_cons_succ]))
    (refine wpTree_q 13 hTok hOps (by kernel_rfl) rfl rfl ⟨?_, ?_, ?_⟩; rotate_left; (focus (intro wx hSx; (try dsimp only at hSx); go_simp; (try with_reducible rfl))); (simp only [Act.put, List.setIfInBounds_toArray, List.set_cons_zero, List.set_cons_succ]))
    (refine wpTree_qg 14 hTok hOps (by kernel_rfl) rfl rfl ⟨?_, ?_, ?_⟩; rotate_left; (focus (intro wx hSx; (try dsimp only at hSx); go_simp; rw [if_pos (by omega)])); (simp only [Act.put, List.setIfInBounds_toArray, List.set_cons_zero, List.set_cons_succ]))
    refine wpTree_nil hOps (by kernel_rfl) ?_
    refine hT.out _ _ ?_
    simp only [List.drop_succ_cons, List.drop_zero]
    clear hOps hT hTok
    try clear hHeld
    go_upto_region 9 with fail
    refine Code.wp_world ?_
    intro w2 hw2
    have hG2 : Gos w2 A U X gb p ops ⟨m.n, m.c, fun i => if i = k * 8 + j then r else m.wy i⟩ N M := by
      have h := (hset.out xo hxo.out).below ((Below.refl _ _).drew)
      rw [← Nat.add_assoc] at h
      rw [hw2]
      exact h
    have hc2 : Chg (fun i => i = gb) w w2 := by
      rw [hw2]
      exact ((Chg.refl (fun i => i = gb) w).drew).setCell ⟨gb, 3 + k * 8 + j, none⟩ _ (fun _ => rfl)
    have hcF : Chg (Foot A U X) w w2 := hc2.mono (fun i _ e => .inl (by rw [e]; exact hG.inG.1))
    have hs2 := hc2.size
    have hsl2 : SlA w2.heap.size 4 (RCount w2.heap.size) w2 lu lc l := (slaChgJ (E' := RCount w.heap.size) hsl hc2 (Nat.le_refl _) (fun _ ad e e2 => by have := hLb ad e; omega) (fun _ _ _ h => h)).imp (Below.refl _ _) hs2 (fun _ _ _ h => h.imp (Below.refl _ _) hs2)
    obtain ⟨⟨cs, hT, hcs, hcl⟩, _, _⟩ := hG2.trs (j + 1) (by rw [← hn.out] at *; exact hjn)
    have hup := update_any l lu lc w2 hT hsl2 (by omega) (by omega)
    have cv2 := hG2.vcell (j := j) (by rw [hn.out] at hjn; exact hjn)
    have cg2 := hG2.gcell2
    rw [← hvb.out] at cv2 cg2
    have hng : (⟨m.n, m.c, fun i => if i = k * 8 + j then r else m.wy i⟩ : GM).n = n := hn.out.symm
    rw [hng] at cg2
    rw [← hql.out] at hup
    obtain ⟨tb, htb⟩ : ∃ tb, tb = (p.tp (j + 1)).tb := ⟨_, rfl⟩
    rw [← htb] at cv2 hup
    have hres : ∀ w3 ue, (Chg (fun k => k = (p.tp (j + 1)).x.mb) w2 w3 ∧ ue = updE ops cs l ∧ (updE ops cs l ≠ 0 → Below w2.heap.size w2 w3) ∧ (updE ops cs l = 0 → ∃ cs', Tr w3 (p.tp (j + 1)).base tb (p.tp (j + 1)).x ops cs' ∧ (∀ s, cntC cs' s = wrap64 (cntC cs s + totC l s)) ∧ cs'.length ≤ cs.length + ql)) →
        Ending.returned (.int .i64 0) = Ending.returned (.int .i64 (dlvE m k j)) ∧ Chg (Foot A U X) w w3 ∧ Gos w3 A U X gb p ops (dlvM ops m k j) (N + M) M := by
      rintro w3 ue ⟨hc3, _, hbad, hgood⟩
      rw [hdM.out, hE0.out]
      have hm := hT.bmb
      have hiT := hG2.inT (j + 1) (by rw [hng]; exact hjn)
      have hmU : (p.tp (j + 1)).x.mb < U := by
        have := (hG2.trs (j + 1) (by rw [hng]; exact hjn)).2.2
        omega
      refine ⟨rfl, hcF.trans (hc3.mono (fun i _ e => .inl (by rw [e]; exact ⟨by omega, hmU⟩))), ?_⟩
      have hF := updF_cs ops cs l
      rw [hcs] at hF
      by_cases hu : updE ops cs l = 0
      · obtain ⟨cs', h1, h2, h3⟩ := hgood hu
        have h := hG2.upd (i := j + 1) (by rw [hng]; exact hjn) hc3 (cs := cs) (cs' := cs') (l := l) (N' := N + M) hcs (Nat.le_add_right _ _) (by rw [← htb]; exact h1) h2 (by have := hql.out; omega)
        have e : (⟨m.n, fun i => if i = j + 1 then nextF ops (m.c i) l else m.c i, fun i => if i = k * 8 + j then r else m.wy i⟩ : GM) = ⟨m.n, fun i => if i = j + 1 then addF (m.c (j + 1)) l else m.c i, fun i => if i = k * 8 + j then r else m.wy i⟩ := by
          congr 1
          funext i
          by_cases hi : i = j + 1
          · subst hi
            rw [if_pos rfl, if_pos rfl]
            unfold nextF
            rw [if_pos (by rw [← hu]; exact hF.symm)]
          · rw [if_neg hi, if_neg hi]
        rw [e]
        exact h
      · have e : (⟨m.n, fun i => if i = j + 1 then nextF ops (m.c i) l else m.c i, fun i => if i = k * 8 + j then r else m.wy i⟩ : GM) = ⟨m.n, m.c, fun i => if i = k * 8 + j then r else m.wy i⟩ := by
          congr 1
          funext i
          by_cases hi : i = j + 1
          · subst hi
            rw [if_pos rfl]
            unfold nextF
            rw [if_neg (by rw [← hF]; exact hu)]
          · rw [if_neg hi]
        rw [e]
        exact (hG2.below (hbad hu)).mono (Nat.le_add_right _ _)
    replace hres := Lib.hid hres
    replace hup := Lib.hid hup
    clear hw2 hG2 hc2 hcF hsl2 hT hcs hcl hng htb hset hxo hG hLi hsl hLb d0 d1 ff hdM
    go_wp2_with fail
    refine hup.out.mono ?_
    rintro e w3 ⟨rfl, q1, q2, q3⟩
    have hfinal := hres.out w3 _ ⟨q1, rfl, q2, q3⟩
    replace hfinal := Lib.hid hfinal
    clear hup hres q1 q2 q3
    dsimp only
    go_wp2_with fail
    go_ret
    exact hfinal.out
end Go.Proofs.YtjmbafcpbagpdaaGreat
