/- Wire: reading an item, by the reference. -/
import Derived.Test.YtjgiphoolfhlmaaWu
namespace Go.Proofs.Ytjgiphoolfhlmaa
open Go.RowKit
set_option linter.unusedVariables false

/-- What the reference's reading of an item gives. -/
def FItR (f B rb : Nat) (w : World) (r : Nat × Itm × List Nat × Nat) (e : Ending) (w' : World) : Prop :=
  ∃ cs, e = .returned (.agg cs) ∧ Chg (fun k => k = rb) w w' ∧
    (r.1 ≠ 0 → cs = zeroC ∧ ∃ (ao : Option Addr) (n cap c : Nat), Blk w' rb #[.slice ao n cap, .int .i64 c, .int .i64 r.1] 121) ∧
    (r.1 = 0 → RItP f (fun b => w.heap.size ≤ b ∧ b < w'.heap.size) w' cs.toList r.2.1 ∧ ∃ (ao : Option Addr) (cap : Nat), Blk w' rb #[.slice ao r.2.2.1.length cap, .int .i64 r.2.2.2, .int .i64 0] 121 ∧ RBy B w' ao cap r.2.2.1)

/-- The reference's reader and the result's cells. -/
structure FS (B : Nat) (w0 w : World) (rb cw : Nat) (ao : Option Addr) (n cap cnt : Nat) (er : Int) (bs : List Nat) : Prop where
  hch : Chg (fun k => k = rb) w0 w
  hrb : Blk w rb #[.slice ao n cap, .int .i64 cnt, .int .i64 er] 121
  hcw : Blk w cw #[.int .i64 0, .int .i64 0, .string ⟨#[]⟩, .slice none 0 0] 63
  hcw0 : w0.heap.size ≤ cw
  hby : RBy B w ao cap bs
  hn : n = bs.length
  hB : B ≤ rb
  hr0 : rb < w0.heap.size
section
variable {B : Nat} {w0 w : World} {rb cw : Nat} {ao : Option Addr} {n cap cnt : Nat} {er : Int} {bs : List Nat}
theorem FS.facts (S : FS B w0 w rb cw ao n cap cnt er bs) : w.cell? ⟨rb, 0, none⟩ = some (.slice ao n cap) ∧ w.cell? ⟨rb, 1, none⟩ = some (.int .i64 cnt) ∧ w.cell? ⟨rb, 2, none⟩ = some (.int .i64 er) ∧ w.frozen? ⟨rb, 0, none⟩ = false ∧ w.frozen? ⟨rb, 1, none⟩ = false ∧ w.frozen? ⟨rb, 2, none⟩ = false ∧
    w.cell? ⟨cw, 0, none⟩ = some (.int .i64 0) ∧ w.cell? ⟨cw, 1, none⟩ = some (.int .i64 0) ∧ w.cell? ⟨cw, 2, none⟩ = some (.string ⟨#[]⟩) ∧ w.cell? ⟨cw, 3, none⟩ = some (.slice none 0 0) ∧
    w.frozen? ⟨cw, 0, none⟩ = false ∧ w.frozen? ⟨cw, 1, none⟩ = false ∧ w.frozen? ⟨cw, 2, none⟩ = false ∧ w.frozen? ⟨cw, 3, none⟩ = false :=
  ⟨S.hrb.cellAt rfl, S.hrb.cellAt rfl, S.hrb.cellAt rfl, S.hrb.frozen 0, S.hrb.frozen 1, S.hrb.frozen 2, S.hcw.cellAt rfl, S.hcw.cellAt rfl, S.hcw.cellAt rfl, S.hcw.cellAt rfl, S.hcw.frozen 0, S.hcw.frozen 1, S.hcw.frozen 2, S.hcw.frozen 3⟩
theorem FS.chg4 (S : FS B w0 w rb cw ao n cap cnt er bs) (v0 v1 v2 v3 : Value) : Chg (fun k => k = rb) w0 ((((w.setCell ⟨cw, 0, none⟩ v0).setCell ⟨cw, 1, none⟩ v1).setCell ⟨cw, 2, none⟩ v2).setCell ⟨cw, 3, none⟩ v3) := by
  have h := S.hcw0
  exact (((S.hch.setCell ⟨cw, 0, none⟩ v0 (fun h2 => by simp at h2; omega)).setCell ⟨cw, 1, none⟩ v1 (fun h2 => by simp at h2; omega)).setCell ⟨cw, 2, none⟩ v2 (fun h2 => by simp at h2; omega)).setCell ⟨cw, 3, none⟩ v3 (fun h2 => by simp at h2; omega)
theorem FS.ne (S : FS B w0 w rb cw ao n cap cnt er bs) : rb ≠ cw := by have := S.hcw0; have := S.hr0; omega
theorem FS.rb4 (S : FS B w0 w rb cw ao n cap cnt er bs) (v0 v1 v2 v3 : Value) : Blk ((((w.setCell ⟨cw, 0, none⟩ v0).setCell ⟨cw, 1, none⟩ v1).setCell ⟨cw, 2, none⟩ v2).setCell ⟨cw, 3, none⟩ v3) rb #[.slice ao n cap, .int .i64 cnt, .int .i64 er] 121 :=
  (((S.hrb.set_other (p := ⟨cw, 0, none⟩) S.ne v0).set_other (p := ⟨cw, 1, none⟩) S.ne v1).set_other (p := ⟨cw, 2, none⟩) S.ne v2).set_other (p := ⟨cw, 3, none⟩) S.ne v3
/-- Any change of other blocks than the bytes', the reader's, the result's. -/
theorem FS.step (S : FS B w0 w rb cw ao n cap cnt er bs) {w' : World} {T : Nat → Prop} (hc : Chg T w w') (hT : ∀ k, T k → cw < k) : FS B w0 w' rb cw ao n cap cnt er bs := by
  have h1 := S.hcw0
  have h2 := S.hr0
  have h3 := S.hB
  have h4 := S.hch.size
  refine ⟨S.hch.then_new hc (fun i hi h => by have := hT i h; omega), S.hrb.chg hc (fun h => by have := hT _ h; omega), S.hcw.chg hc (fun h => by have := hT _ h; omega), h1, S.hby.imp (hc.below (by omega) (fun k hk h => by have := hT k h; omega)) (Nat.le_refl _), S.hn, h3, h2⟩
theorem FS.setE (S : FS B w0 w rb cw ao n cap cnt er bs) (e2 : Int) : FS B w0 (w.setCell ⟨rb, 2, none⟩ (.int .i64 e2)) rb cw ao n cap cnt e2 bs :=
  ⟨S.hch.setCell ⟨rb, 2, none⟩ _ (fun _ => rfl), S.hrb.set 2 _, S.hcw.set_other (p := ⟨rb, 2, none⟩) (Ne.symm S.ne) _, S.hcw0, S.hby.imp (Below.setCell (Below.refl _ _) (p := ⟨rb, 2, none⟩) S.hB _) (Nat.le_refl _), S.hn, S.hB, S.hr0⟩
theorem FS.setB {b1 o1 : Nat} (S : FS B w0 w rb cw (some ⟨b1, o1, none⟩) n cap cnt er bs) (k : Nat) (hk : k ≤ n) (x : Option Addr) (cap' : Nat) (hx : (x = some ⟨b1, o1 + k, none⟩ ∧ cap' = cap - k) ∨ (cap = k ∧ cap' = 0)) :
    FS B w0 (w.setCell ⟨rb, 0, none⟩ (.slice x (n - k) cap')) rb cw x (n - k) cap' cnt er (bs.drop k) :=
  ⟨S.hch.setCell ⟨rb, 0, none⟩ _ (fun _ => rfl), S.hrb.set 0 _, S.hcw.set_other (p := ⟨rb, 0, none⟩) (Ne.symm S.ne) _, S.hcw0, slice_cut k (S.hby.imp (Below.setCell (Below.refl _ _) (p := ⟨rb, 0, none⟩) S.hB _) (Nat.le_refl _)) S.hn hk x cap' hx, by rw [List.length_drop, S.hn], S.hB, S.hr0⟩
theorem FS.done {f : Nat} (S : FS B w0 w rb cw ao n cap cnt 0 bs) {k N : Int} {s : ByteArray} {la : Option Addr} {lc : Nat} {ls : List Itm} {D : Nat → Prop} (hk : (Lit.int .i64 k).wf = true) (hN : (Lit.int .i64 N).wf = true) (hs : s.size ≤ 140737488351232)
    (hl : RItsP f D w la lc ls) (hD : ∀ b, D b → cw < b ∧ b < w.heap.size) :
    FItR (f + 1) B rb w0 (0, .mk k N s ls, bs, cnt) (.returned (.agg #[.int .i64 k, .int .i64 N, .string s, .slice la ls.length lc]))
      ((((w.setCell ⟨cw, 0, none⟩ (.int .i64 k)).setCell ⟨cw, 1, none⟩ (.int .i64 N)).setCell ⟨cw, 2, none⟩ (.string s)).setCell ⟨cw, 3, none⟩ (.slice la ls.length lc)) := by
  have hc := S.hcw0
  have hr := S.hr0
  have hBr := S.hB
  refine ⟨_, rfl, S.chg4 _ _ _ _, fun h => absurd rfl h, fun _ => ⟨RItP.mk' hk hN hs (hl.imp fun b hb => ⟨⟨by have := hD b hb; omega, by have := hD b hb; simp; omega⟩, heap4 w cw _ _ _ _ (by have := hD b hb; omega)⟩), ao, cap, by have := S.rb4 (.int .i64 k) (.int .i64 N) (.string s) (.slice la ls.length lc); rw [S.hn] at this; exact this, ?_⟩⟩
  refine S.hby.imp ?_ (Nat.le_refl _)
  exact Below.setCell (Below.setCell (Below.setCell (Below.setCell (Below.refl _ _) (p := ⟨cw, 0, none⟩) (by simp; omega) _) (p := ⟨cw, 1, none⟩) (by simp; omega) _) (p := ⟨cw, 2, none⟩) (by simp; omega) _) (p := ⟨cw, 3, none⟩) (by simp; omega) _
end

theorem chg4' {w0 w : World} {rb cw : Nat} (hch : Chg (fun k => k = rb) w0 w) (h : w0.heap.size ≤ cw) (v0 v1 v2 v3 : Value) : Chg (fun k => k = rb) w0 ((((w.setCell ⟨cw, 0, none⟩ v0).setCell ⟨cw, 1, none⟩ v1).setCell ⟨cw, 2, none⟩ v2).setCell ⟨cw, 3, none⟩ v3) :=
  (((hch.setCell ⟨cw, 0, none⟩ v0 (fun h2 => by simp at h2; omega)).setCell ⟨cw, 1, none⟩ v1 (fun h2 => by simp at h2; omega)).setCell ⟨cw, 2, none⟩ v2 (fun h2 => by simp at h2; omega)).setCell ⟨cw, 3, none⟩ v3 (fun h2 => by simp at h2; omega)
theorem rb4' {w : World} {rb cw : Nat} {cs : Array Value} {T : TypeId} (h : Blk w rb cs T) (hne : rb ≠ cw) (v0 v1 v2 v3 : Value) : Blk ((((w.setCell ⟨cw, 0, none⟩ v0).setCell ⟨cw, 1, none⟩ v1).setCell ⟨cw, 2, none⟩ v2).setCell ⟨cw, 3, none⟩ v3) rb cs T :=
  (((h.set_other (p := ⟨cw, 0, none⟩) hne v0).set_other (p := ⟨cw, 1, none⟩) hne v1).set_other (p := ⟨cw, 2, none⟩) hne v2).set_other (p := ⟨cw, 3, none⟩) hne v3
theorem rdLp_rest {g : Nat → List Nat → Nat × Itm × List Nat × Nat} (hg : ∀ cnt bs, ∃ k, (g cnt bs).2.2.1 = bs.drop k) : ∀ n acc bs cnt, ∃ k, (rdLp g n acc bs cnt).2.2.1 = bs.drop k
  | 0, acc, bs, cnt => ⟨0, rfl⟩
  | n + 1, acc, bs, cnt => by
    rw [rdLp]
    split
    · exact ⟨bs.length, by simp⟩
    · obtain ⟨k1, h1⟩ := hg cnt bs
      obtain ⟨k2, h2⟩ := rdLp_rest hg n (acc ++ [(g cnt bs).2.1]) (g cnt bs).2.2.1 (g cnt bs).2.2.2
      exact ⟨k1 + k2, by rw [h2, h1, List.drop_drop]⟩
theorem rdI_rest : ∀ f cnt bs, ∃ k, (rdI f cnt bs).2.2.1 = bs.drop k
  | 0, cnt, bs => ⟨bs.length, by rw [rdI]; simp⟩
  | f + 1, cnt, [] => ⟨0, by rw [rdI]; split <;> rfl⟩
  | f + 1, cnt, k :: r => by
    rw [rdI]
    split
    · exact ⟨(k :: r).length, by simp⟩
    · split
      · exact ⟨(k :: r).length, by simp⟩
      · unfold rdBody
        split
        · exact ⟨(k :: r).length, by simp⟩
        · split
          · exact ⟨(rdN 0 0 r).2.2 + 1, by simp⟩
          · split
            · exact ⟨(k :: r).length, by simp⟩
            · split
              · split
                · exact ⟨(k :: r).length, by simp⟩
                · exact ⟨(rdN 0 0 r).2.2 + (rdN 0 0 r).2.1 + 1, by simp [List.drop_drop]⟩
              · obtain ⟨k2, h2⟩ := rdLp_rest (rdI_rest f) (rdN 0 0 r).2.1 [] (r.drop (rdN 0 0 r).2.2) (cnt + 1)
                exact ⟨(rdN 0 0 r).2.2 + k2 + 1, by rw [h2]; simp [List.drop_drop]⟩

set_option maxRecDepth 100000 in
set_option maxHeartbeats 4000000 in
theorem fitem_any : ∀ (f dep : Nat) (bs : List Nat) (ao : Option Addr) (cap cnt rb : Nat) (w : World) (B : Nat), f + dep = 9 → (∀ x ∈ bs, x < 256) → bs.length ≤ 140737488351232 → RBy B w ao cap bs →
    Blk w rb #[.slice ao bs.length cap, .int .i64 cnt, .int .i64 0] 121 → B ≤ rb → cnt ≤ 4096 →
    Calls Try.prog 62 #[.pointer (some ⟨rb, 0, none⟩), .int .i64 dep] w (FItR f B rb w (rdI f cnt bs)) := by
  intro f
  induction f using Nat.strongRecOn with
  | _ f ih =>
  intro dep bs ao cap cnt rb w B hf hbs hln hby hr hB hcnt
  have hr0 := hr.lt
  obtain ⟨res, hres⟩ : ∃ r, r = rdI f cnt bs := ⟨_, rfl⟩
  rw [← hres]
  obtain ⟨n, hn⟩ : ∃ n, n = bs.length := ⟨_, rfl⟩
  rw [← hn] at hr hln
  have hn0 := hn
  replace hn := Lib.hid hn
  replace hres := Lib.hid hres
  obtain ⟨cw, hcw⟩ : ∃ c, c = w.heap.size := ⟨_, rfl⟩
  have r1 : w.cell? ⟨rb, 1, none⟩ = some (.int .i64 cnt) := hr.cellAt rfl
  have f1 := hr.frozen 1
  have hcapn : n ≤ cap := by rw [hn0]; exact hby.1
  replace hn0 := Lib.hid hn0
  go_enter Try.func62, Try.ntmps62
  go_upto_region 2 with fail
  refine Code.wp_world ?_
  intro w1 hw1
  have S1 : FS B w w1 rb cw ao n cap (cnt + 1) 0 bs := by
    rw [hw1]
    refine ⟨((Chg.refl (fun k => k = rb) w).setCell ⟨rb, 1, none⟩ _ (fun _ => rfl)).alloc _, (hr.set 1 _).alloc _, ?_, by omega, hby.imp (Below.alloc (Below.setCell (Below.refl _ _) (p := ⟨rb, 1, none⟩) hB _) (by simp; omega) _) (Nat.le_refl _), hn0.out, hB, hr0⟩
    rw [hcw]
    have := Blk.new (w.setCell ⟨rb, 1, none⟩ (.int .i64 ((cnt : Int) + 1))) #[.int .i64 0, .int .i64 0, .string ⟨#[]⟩, .slice none 0 0] 63
    simpa using this
  rw [← hcw]
  clear hw1 hr r1 f1
  replace hcw := Lib.hid hcw
  obtain ⟨c1, hc1⟩ : ∃ c, c = cnt + 1 := ⟨_, rfl⟩
  rw [← hc1] at S1
  by_cases hA : 4096 < c1 ∨ f = 0
  · have hrv : res = (2, nilI, [], 0) := by
      rw [hres.out]
      cases f with
      | zero => rw [rdI]
      | succ f =>
        have hc : 4096 < cnt + 1 := by omega
        cases bs with
        | nil => rw [rdI, if_pos hc]
        | cons _ _ => rw [rdI, if_pos hc]
    subst hrv
    clear hres hc1
    obtain ⟨q0, q1, q2, p0, p1, p2, k0, k1, k2, k3, g0, g1, g2, g3⟩ := S1.facts
    by_cases hc : 4096 < c1
    · have hd : decide ((4096 : Int) < (c1 : Int)) = true := by simp; omega
      go_upto_region 4 with fail
      refine Code.wp_world ?_
      intro wE hwE
      have SE := FS.setE S1 2
      rw [← hwE] at SE
      clear hwE q0 q1 q2 p0 p1 p2 k0 k1 k2 k3 g0 g1 g2 g3
      obtain ⟨q0, q1, q2, p0, p1, p2, k0, k1, k2, k3, g0, g1, g2, g3⟩ := SE.facts
      go_wp2_with fail
      refine bodyPost_ret (results_cell_row rfl _ _ cw 63 _ (0, 0) _ rfl ((((SE.hcw.set 0 _).set 1 _).set 2 _).set 3 _) Try.underlying63 rfl (by kernel_rfl)) rfl ?_
      exact ⟨_, rfl, FS.chg4 SE _ _ _ _, fun _ => ⟨rfl, _, _, _, _, FS.rb4 SE _ _ _ _⟩, fun h => by cases h⟩
    · have hd : decide ((4096 : Int) < (c1 : Int)) = false := by simp; omega
      have hd2 : decide ((8 : Int) < (dep : Int)) = true := by simp; omega
      go_upto_region 4 with fail
      refine Code.wp_world ?_
      intro wE hwE
      have SE := FS.setE S1 2
      rw [← hwE] at SE
      clear hwE q0 q1 q2 p0 p1 p2 k0 k1 k2 k3 g0 g1 g2 g3
      obtain ⟨q0, q1, q2, p0, p1, p2, k0, k1, k2, k3, g0, g1, g2, g3⟩ := SE.facts
      go_wp2_with fail
      refine bodyPost_ret (results_cell_row rfl _ _ cw 63 _ (0, 0) _ rfl ((((SE.hcw.set 0 _).set 1 _).set 2 _).set 3 _) Try.underlying63 rfl (by kernel_rfl)) rfl ?_
      exact ⟨_, rfl, FS.chg4 SE _ _ _ _, fun _ => ⟨rfl, _, _, _, _, FS.rb4 SE _ _ _ _⟩, fun h => by cases h⟩
  · obtain ⟨f, rfl⟩ : ∃ f', f = f' + 1 := ⟨f - 1, by omega⟩
    have hd : decide ((4096 : Int) < (c1 : Int)) = false := by simp; omega
    have hd2 : decide ((8 : Int) < (dep : Int)) = false := by simp; omega
    have hd3 : ¬ 4096 < cnt + 1 := by omega
    have hc4 : c1 ≤ 4096 := by omega
    cases bs with
    | nil =>
      have hrv : res = (5, nilI, [], 0) := by rw [hres.out, rdI, if_neg hd3]
      subst hrv
      obtain rfl : n = 0 := hn.out
      clear hres hc1
      obtain ⟨q0, q1, q2, p0, p1, p2, k0, k1, k2, k3, g0, g1, g2, g3⟩ := S1.facts
      go_upto_region 7 with fail
      refine Code.wp_world ?_
      intro wE hwE
      have SE := FS.setE S1 5
      rw [← hwE] at SE
      clear hwE q0 q1 q2 p0 p1 p2 k0 k1 k2 k3 g0 g1 g2 g3
      obtain ⟨q0, q1, q2, p0, p1, p2, k0, k1, k2, k3, g0, g1, g2, g3⟩ := SE.facts
      go_wp2_with fail
      refine bodyPost_ret (results_cell_row rfl _ _ cw 63 _ (0, 0) _ rfl ((((SE.hcw.set 0 _).set 1 _).set 2 _).set 3 _) Try.underlying63 rfl (by kernel_rfl)) rfl ?_
      exact ⟨_, rfl, FS.chg4 SE _ _ _ _, fun _ => ⟨rfl, _, _, _, _, FS.rb4 SE _ _ _ _⟩, fun h => by cases h⟩
    | cons k r =>
      have hnr : n = r.length + 1 := by rw [hn.out]; rfl
      have hn1 : ((n : Int) == 0) = false := by simp; omega
      obtain ⟨b1, o1, rfl, hb1, _⟩ := SlA.addr hby (by simp)
      have hk256 : k < 256 := hbs k (by simp)
      have hbr : ∀ x ∈ r, x < 256 := fun x hx => hbs x (by simp [hx])
      have c0 : w1.cell? ⟨b1, o1, none⟩ = some (.int .u8 k) := by
        have := S1.hby.at (i := 0) (by simp)
        simpa using this
      rw [rdI, if_neg hd3, ← hc1] at hres
      replace hc1 := Lib.hid hc1
      replace hnr := Lib.hid hnr
      have hnp : 0 < n := by have := hnr.out; omega
      obtain ⟨q0, q1, q2, p0, p1, p2, k0, k1, k2, k3, g0, g1, g2, g3⟩ := S1.facts
      go_upto_region 9 with fail
      refine Code.wp_world ?_
      intro w2 hw2
      obtain ⟨ib, hib⟩ : ∃ c, c = w1.heap.size := ⟨_, rfl⟩
      have hci : cw < ib := by rw [hib]; exact S1.hcw.lt
      have S2 : FS B w w2 rb cw (some ⟨b1, o1, none⟩) n cap c1 0 (k :: r) := by
        rw [hw2]
        exact S1.step ((Chg.refl (fun _ => False) w1).alloc _) (fun _ h => h.elim)
      have hI2 : Blk w2 ib #[.int .i64 k, .int .i64 0, .string ⟨#[]⟩, .slice none 0 0] 63 := by
        rw [hw2, hib]
        exact Blk.new _ _ _
      rw [← hib]
      clear hw2 c0 q0 q1 q2 p0 p1 p2 k0 k1 k2 k3 g0 g1 g2 g3 S1
      replace hib := Lib.hid hib
      obtain ⟨i0, i1, i2, i3⟩ := blk4 hI2
      by_cases hk2 : 2 < k
      · have hrv : res = (3, nilI, [], 0) := by rw [hres.out, if_pos hk2]
        subst hrv
        clear hres
        have hkd : decide ((2 : Int) < (k : Int)) = true := by simp; omega
        obtain ⟨q0, q1, q2, p0, p1, p2, k0, k1, k2, k3, g0, g1, g2, g3⟩ := S2.facts
        go_upto_region 11 with fail
        refine Code.wp_world ?_
        intro wE hwE
        have SE := FS.setE S2 3
        rw [← hwE] at SE
        clear hwE q0 q1 q2 p0 p1 p2 k0 k1 k2 k3 g0 g1 g2 g3
        obtain ⟨q0, q1, q2, p0, p1, p2, k0, k1, k2, k3, g0, g1, g2, g3⟩ := SE.facts
        go_wp2_with fail
        refine bodyPost_ret (results_cell_row rfl _ _ cw 63 _ (0, 0) _ rfl ((((SE.hcw.set 0 _).set 1 _).set 2 _).set 3 _) Try.underlying63 rfl (by kernel_rfl)) rfl ?_
        exact ⟨_, rfl, FS.chg4 SE _ _ _ _, fun _ => ⟨rfl, _, _, _, _, FS.rb4 SE _ _ _ _⟩, fun h => by cases h⟩
      · have hkd : decide ((2 : Int) < (k : Int)) = false := by simp; omega
        rw [if_neg hk2] at hres
        obtain ⟨q0, q1, q2, p0, p1, p2, k0, k1, k2, k3, g0, g1, g2, g3⟩ := S2.facts
        by_cases hcap1 : cap = 1
        · have hr0' : r = [] := by have := hnr.out; exact List.length_eq_zero_iff.1 (by omega)
          subst hr0'
          have hrv : res = (5, nilI, [], 0) := by rw [hres.out]; rfl
          subst hrv
          clear hres
          go_upto_region 13 with fail
          refine Code.wp_world ?_
          intro w3 hw3
          have S3 := S2.setB 1 (by omega) (some ⟨b1, o1, none⟩) 0 (.inr ⟨hcap1, rfl⟩)
          rw [← hw3] at S3
          have hI3 : Blk w3 ib #[.int .i64 k, .int .i64 0, .string ⟨#[]⟩, .slice none 0 0] 63 := by
            rw [hw3]
            exact hI2.set_other (p := ⟨rb, 0, none⟩) (by have := S2.hcw0; simp; omega) _
          clear hw3 q0 q1 q2 p0 p1 p2 k0 k1 k2 k3 g0 g1 g2 g3 i0 i1 i2 i3 S2 hI2
          rw [List.drop_one, List.tail_cons] at S3
          have hnum := fnumber_any [] hbr (some ⟨b1, o1, none⟩) 0 c1 0 rb w3 B S3.hby (by rw [← S3.hn]; exact S3.hrb) hB
          rw [← S3.hn] at hnum
          rw [show rdN 0 0 [] = (5, 0, 0) from rfl] at hnum
          go_wp2_with (go_at_call 68; refine hnum.mono ?knum0)
          case knum0 =>
          intro e w4 he4 hF4
          subst he4
          obtain ⟨hch4, h4⟩ := hF4
          rcases h4 with ⟨h4, _⟩ | ⟨_, hrb4⟩
          · cases h4
          have S4 : FS B w w4 rb cw _ _ _ c1 _ [] := ⟨S3.hch.trans (hch4.mono (fun _ _ h => h)), hrb4, S3.hcw.chg hch4 (fun h => S3.ne h.symm), S3.hcw0, S3.hby.imp (hch4.below (by have := S3.hch.size; omega) (by intro k hk h; omega)) (Nat.le_refl _), S3.hn, hB, hr0⟩
          clear hnum hrb4 hch4 S3
          dsimp only
          obtain ⟨q0, q1, q2, p0, p1, p2, k0, k1, k2, k3, g0, g1, g2, g3⟩ := S4.facts
          go_wp2_with fail
          refine bodyPost_ret (results_cell_row rfl _ _ cw 63 _ (0, 0) _ rfl ((((S4.hcw.set 0 _).set 1 _).set 2 _).set 3 _) Try.underlying63 rfl (by kernel_rfl)) rfl ?_
          exact ⟨_, rfl, FS.chg4 S4 _ _ _ _, fun _ => ⟨rfl, _, _, _, _, FS.rb4 S4 _ _ _ _⟩, fun h => absurd h (by simp)⟩
        · go_upto_region 13 with fail
          refine Code.wp_world ?_
          intro w3 hw3
          have S3 := S2.setB 1 (by omega) (some ⟨b1, o1 + 1, none⟩) (cap - 1) (.inl ⟨rfl, rfl⟩)
          rw [← hw3] at S3
          have hI3 : Blk w3 ib #[.int .i64 k, .int .i64 0, .string ⟨#[]⟩, .slice none 0 0] 63 := by
            rw [hw3]
            exact hI2.set_other (p := ⟨rb, 0, none⟩) (by have := S2.hcw0; simp; omega) _
          clear hw3 q0 q1 q2 p0 p1 p2 k0 k1 k2 k3 g0 g1 g2 g3 i0 i1 i2 i3 S2 hI2
          rw [List.drop_one, List.tail_cons] at S3
          have hnum := fnumber_any r hbr (some ⟨b1, o1 + 1, none⟩) (cap - 1) c1 0 rb w3 B S3.hby (by rw [← S3.hn]; exact S3.hrb) hB
          rw [← S3.hn] at hnum
          have hql := rdN_lt r 0 0 hbr (by decide) (by decide)
          obtain ⟨⟨qe, qv, qk⟩, hq⟩ : ∃ q, q = rdN 0 0 r := ⟨_, rfl⟩
          rw [← hq] at hres hnum hql
          rw [rdBody] at hres
          dsimp only at hres hql
          clear hq
          go_wp2_with (go_at_call 68; refine hnum.mono ?knum)
          case knum =>
          intro e w4 he4 hF4
          subst he4
          obtain ⟨hch4, h4⟩ := hF4
          dsimp only at h4 ⊢
          have hc4' := hch4.size
          have hI4 := hI3.chg hch4 (by have := S3.hcw0; omega)
          rcases h4 with ⟨rfl, b4, o4, cap4, hrb4, hby4⟩ | ⟨hqe, hrb4⟩
          · rw [if_neg (by simp)] at hres
            have S4 : FS B w w4 rb cw (some ⟨b4, o4, none⟩) (n - 1 - qk) cap4 c1 0 (r.drop qk) := ⟨S3.hch.trans (hch4.mono (fun _ _ h => h)), hrb4, S3.hcw.chg hch4 (fun h => S3.ne h.symm), S3.hcw0, hby4, by rw [List.length_drop, S3.hn], hB, hr0⟩
            obtain ⟨bs4, hbs4⟩ : ∃ b, b = r.drop qk := ⟨_, rfl⟩
            obtain ⟨n4, hn4⟩ : ∃ b, b = n - 1 - qk := ⟨_, rfl⟩
            have hb4 : ∀ x ∈ bs4, x < 256 := fun x hx => hbr x (List.mem_of_mem_drop (by rw [← hbs4]; exact hx))
            rw [← hbs4, ← hn4] at S4
            rw [← hbs4] at hres
            have hn4l : n4 ≤ 140737488351232 := by omega
            have hcap4 : n4 ≤ cap4 := by rw [S4.hn]; exact S4.hby.1
            have hbl : bs4.length = n4 := S4.hn.symm
            clear hnum hrb4 hch4 S3 hI3 hby4 hbs4 hn4 hc4' hby hbs hbr hn hn0 hnr
            replace hbl := Lib.hid hbl
            obtain ⟨i0, i1, i2, i3⟩ := blk4 hI4
            have e0 := hI4.frozen 0
            have e1 := hI4.frozen 1
            have e2 := hI4.frozen 2
            have e3 := hI4.frozen 3
            obtain ⟨q0, q1, q2, p0, p1, p2, k0, k1, k2, k3, g0, g1, g2, g3⟩ := S4.facts
            by_cases hk0 : k = 0
            · rw [if_pos hk0] at hres
              have hkb : ((k : Int) == 0) = true := by simp; omega
              have hkq : Hid ((k : Int) = 0) := Lib.hid (by omega)
              go_upto_region 18 with fail
              refine Code.wp_world ?_
              intro w5 hw5
              have S5 := S4.step ((Chg.refl (fun k => k = ib) w4).setCell ⟨ib, 1, none⟩ (.int .i64 ((qv : Int) / 2)) (fun _ => rfl)) (fun k h => by omega)
              rw [← hw5] at S5
              have hI5 : Blk w5 ib #[.int .i64 k, .int .i64 ((qv : Int) / 2), .string ⟨#[]⟩, .slice none 0 0] 63 := by
                rw [hw5]
                exact hI4.set 1 _
              clear hw5 q0 q1 q2 p0 p1 p2 k0 k1 k2 k3 g0 g1 g2 g3 S4 hI4 i0 i1 i2 i3 e0 e1 e2 e3
              obtain ⟨i0, i1, i2, i3⟩ := blk4 hI5
              have e1 := hI5.frozen 1
              have hrv := hres.out
              clear hres
              have hz2 := (zag_bits hql.1).2
              by_cases hodd : qv % 2 = 1
              · have hun : unz qv = -((qv : Int) / 2) - 1 := by unfold unz; rw [if_pos hodd]; omega
                rw [hun] at hrv hz2
                have hob : (((qv : Int) % 2) == 1) = true := by simp; omega
                clear hun
                replace hrv := Lib.hid hrv
                go_upto_region 20 with fail
                refine Code.wp_world ?_
                intro w6 hw6
                have S6 := S5.step ((Chg.refl (fun k => k = ib) w5).setCell ⟨ib, 1, none⟩ (.int .i64 (-((qv : Int) / 2) - 1)) (fun _ => rfl)) (fun k h => by omega)
                rw [← hw6] at S6
                have hI6 : Blk w6 ib #[.int .i64 k, .int .i64 (-((qv : Int) / 2) - 1), .string ⟨#[]⟩, .slice none 0 0] 63 := by
                  rw [hw6]
                  exact hI5.set 1 _
                clear hw6 S5 hI5 i0 i1 i2 i3 e1
                obtain ⟨i0, i1, i2, i3⟩ := blk4 hI6
                obtain ⟨q0, q1, q2, p0, p1, p2, k0, k1, k2, k3, g0, g1, g2, g3⟩ := S6.facts
                go_wp2_with fail
                refine bodyPost_ret (results_cell_row rfl _ _ cw 63 _ (0, 0) _ rfl ((((S6.hcw.set 0 _).set 1 _).set 2 _).set 3 _) Try.underlying63 rfl (by kernel_rfl)) rfl ?_
                rw [hrv.out]
                try rw [hkq.out]
                exact FS.done S6 (k := 0) (s := ⟨#[]⟩) (ls := []) (D := fun _ => False) rfl hz2 (by decide) (RItsP.nil _ _ _) (fun _ h => h.elim)
              · have hun : unz qv = (qv : Int) / 2 := by unfold unz; rw [if_neg hodd]; omega
                rw [hun] at hrv hz2
                have hob : (((qv : Int) % 2) == 1) = false := by simp; omega
                clear hun
                replace hrv := Lib.hid hrv
                obtain ⟨q0, q1, q2, p0, p1, p2, k0, k1, k2, k3, g0, g1, g2, g3⟩ := S5.facts
                go_wp2_with fail
                refine bodyPost_ret (results_cell_row rfl _ _ cw 63 _ (0, 0) _ rfl ((((S5.hcw.set 0 _).set 1 _).set 2 _).set 3 _) Try.underlying63 rfl (by kernel_rfl)) rfl ?_
                rw [hrv.out]
                try rw [hkq.out]
                exact FS.done S5 (k := 0) (s := ⟨#[]⟩) (ls := []) (D := fun _ => False) rfl hz2 (by decide) (RItsP.nil _ _ _) (fun _ h => h.elim)
            · have hkb : ((k : Int) == 0) = false := by simp; omega
              rw [if_neg hk0] at hres
              by_cases hbig : 9223372036854775807 < qv
              · have hbd : decide ((9223372036854775807 : Int) < (qv : Int)) = true := by simp; omega
                have hrv : res = (3, nilI, [], 0) := by rw [hres.out, if_pos hbig]
                subst hrv
                clear hres
                go_upto_region 23 with fail
                refine Code.wp_world ?_
                intro wE hwE
                have SE := FS.setE S4 3
                rw [← hwE] at SE
                clear hwE q0 q1 q2 p0 p1 p2 k0 k1 k2 k3 g0 g1 g2 g3
                obtain ⟨q0, q1, q2, p0, p1, p2, k0, k1, k2, k3, g0, g1, g2, g3⟩ := SE.facts
                go_wp2_with fail
                refine bodyPost_ret (results_cell_row rfl _ _ cw 63 _ (0, 0) _ rfl ((((SE.hcw.set 0 _).set 1 _).set 2 _).set 3 _) Try.underlying63 rfl (by kernel_rfl)) rfl ?_
                exact ⟨_, rfl, FS.chg4 SE _ _ _ _, fun _ => ⟨rfl, _, _, _, _, FS.rb4 SE _ _ _ _⟩, fun h => by cases h⟩
              · have hbd : decide ((9223372036854775807 : Int) < (qv : Int)) = false := by simp; omega
                rw [if_neg hbig] at hres
                by_cases hk1 : k = 1
                · have hkb1 : ((k : Int) == 1) = true := by simp; omega
                  have hkq : Hid ((k : Int) = 1) := Lib.hid (by omega)
                  rw [if_pos hk1] at hres
                  by_cases hshort : n4 < qv
                  · have hrv : res = (5, nilI, [], 0) := by rw [hres.out, if_pos (by rw [hbl.out]; exact hshort)]
                    subst hrv
                    clear hres
                    have hsd : decide ((n4 : Int) < (qv : Int)) = true := by simp; omega
                    have hwn : IntKind.u64.wrap (n4 : Int) = n4 := by rw [IntKind.wrap_u64]; omega
                    go_upto_region 27 with fail
                    refine Code.wp_world ?_
                    intro wE hwE
                    have SE := FS.setE S4 5
                    rw [← hwE] at SE
                    clear hwE q0 q1 q2 p0 p1 p2 k0 k1 k2 k3 g0 g1 g2 g3
                    obtain ⟨q0, q1, q2, p0, p1, p2, k0, k1, k2, k3, g0, g1, g2, g3⟩ := SE.facts
                    go_wp2_with fail
                    refine bodyPost_ret (results_cell_row rfl _ _ cw 63 _ (0, 0) _ rfl ((((SE.hcw.set 0 _).set 1 _).set 2 _).set 3 _) Try.underlying63 rfl (by kernel_rfl)) rfl ?_
                    exact ⟨_, rfl, FS.chg4 SE _ _ _ _, fun _ => ⟨rfl, _, _, _, _, FS.rb4 SE _ _ _ _⟩, fun h => by cases h⟩
                  · rw [if_neg (by rw [hbl.out]; exact hshort)] at hres
                    have hsd : decide ((n4 : Int) < (qv : Int)) = false := by simp; omega
                    have hwn : IntKind.u64.wrap (n4 : Int) = n4 := by rw [IntKind.wrap_u64]; omega
                    have htl : (bs4.take qv).length = qv := by rw [List.length_take, hbl.out]; omega
                    have htb : ∀ x ∈ bs4.take qv, x < 256 := fun x hx => hb4 x (List.mem_of_mem_take hx)
                    have hT1 : (convert 44 9 (.slice (some ⟨b4, o4, none⟩) qv cap4)).run Try.prog w4 = .ok (.string (toB (bs4.take qv))) w4 := by
                      have := by_text (w := w4) (a := ⟨b4, o4, none⟩) (cap := cap4) (bs := bs4.take qv) (fun j hj => by
                        have hj2 : j < bs4.length := by rw [htl] at hj; rw [hbl.out]; omega
                        rw [show (⟨b4, o4, none⟩ : Addr).add j = ⟨b4, o4 + j, none⟩ by unfold Addr.add; split <;> simp_all, S4.hby.at hj2]
                        simp) htb
                      rwa [htl] at this
                    have hts : (toB (bs4.take qv)).size ≤ 140737488351232 := by rw [toB_size, htl]; omega
                    obtain ⟨T, hT⟩ : ∃ T, T = toB (bs4.take qv) := ⟨_, rfl⟩
                    rw [← hT] at hres hT1 hts
                    have hrv := Lib.hid hres.out
                    clear hres hT htl htb
                    go_upto_region 29 with fail
                    refine Code.wp_world ?_
                    intro w5 hw5
                    have S5 := S4.step ((Chg.refl (fun k => k = ib) w4).setCell ⟨ib, 2, none⟩ (.string T) (fun _ => rfl)) (fun k h => by omega)
                    rw [← hw5] at S5
                    have hI5 : Blk w5 ib #[.int .i64 k, .int .i64 0, .string T, .slice none 0 0] 63 := by
                      rw [hw5]
                      exact hI4.set 2 _
                    clear hw5 q0 q1 q2 p0 p1 p2 k0 k1 k2 k3 g0 g1 g2 g3 S4 hI4 i0 i1 i2 i3 e0 e1 e2 e3 hT1 hwn
                    obtain ⟨i0, i1, i2, i3⟩ := blk4 hI5
                    obtain ⟨q0, q1, q2, p0, p1, p2, k0, k1, k2, k3, g0, g1, g2, g3⟩ := S5.facts
                    by_cases hcz : cap4 = qv
                    · go_upto_region 30 with fail
                      refine Code.wp_world ?_
                      intro w6 hw6
                      have S6 := S5.setB qv (by omega) (some ⟨b4, o4, none⟩) 0 (.inr ⟨hcz, rfl⟩)
                      rw [← hw6] at S6
                      have hI6 : Blk w6 ib #[.int .i64 k, .int .i64 0, .string T, .slice none 0 0] 63 := by
                        rw [hw6]
                        exact hI5.set_other (p := ⟨rb, 0, none⟩) (by have := S5.hcw0; simp; omega) _
                      clear hw6 q0 q1 q2 p0 p1 p2 k0 k1 k2 k3 g0 g1 g2 g3 i0 i1 i2 i3 S5 hI5
                      obtain ⟨i0, i1, i2, i3⟩ := blk4 hI6
                      obtain ⟨q0, q1, q2, p0, p1, p2, k0, k1, k2, k3, g0, g1, g2, g3⟩ := S6.facts
                      go_wp2_with fail
                      refine bodyPost_ret (results_cell_row rfl _ _ cw 63 _ (0, 0) _ rfl ((((S6.hcw.set 0 _).set 1 _).set 2 _).set 3 _) Try.underlying63 rfl (by kernel_rfl)) rfl ?_
                      rw [hrv.out]
                      try rw [hkq.out]
                      exact FS.done S6 (k := 1) (N := 0) (s := T) (ls := []) (D := fun _ => False) rfl rfl hts (RItsP.nil _ _ _) (fun _ h => h.elim)
                    · go_upto_region 30 with fail
                      refine Code.wp_world ?_
                      intro w6 hw6
                      have S6 := S5.setB qv (by omega) (some ⟨b4, o4 + qv, none⟩) (cap4 - qv) (.inl ⟨rfl, rfl⟩)
                      rw [← hw6] at S6
                      have hI6 : Blk w6 ib #[.int .i64 k, .int .i64 0, .string T, .slice none 0 0] 63 := by
                        rw [hw6]
                        exact hI5.set_other (p := ⟨rb, 0, none⟩) (by have := S5.hcw0; simp; omega) _
                      clear hw6 q0 q1 q2 p0 p1 p2 k0 k1 k2 k3 g0 g1 g2 g3 i0 i1 i2 i3 S5 hI5
                      obtain ⟨i0, i1, i2, i3⟩ := blk4 hI6
                      obtain ⟨q0, q1, q2, p0, p1, p2, k0, k1, k2, k3, g0, g1, g2, g3⟩ := S6.facts
                      go_wp2_with fail
                      refine bodyPost_ret (results_cell_row rfl _ _ cw 63 _ (0, 0) _ rfl ((((S6.hcw.set 0 _).set 1 _).set 2 _).set 3 _) Try.underlying63 rfl (by kernel_rfl)) rfl ?_
                      rw [hrv.out]
                      try rw [hkq.out]
                      exact FS.done S6 (k := 1) (N := 0) (s := T) (ls := []) (D := fun _ => False) rfl rfl hts (RItsP.nil _ _ _) (fun _ h => h.elim)
                · have hkb1 : ((k : Int) == 1) = false := by simp; omega
                  have hkq : Hid ((k : Int) = 2) := Lib.hid (by omega)
                  rw [if_neg hk1] at hres
                  obtain ⟨j0, hi, hz0, hz1, hz2⟩ := info_parts infoI
                  have hwz := S4.hch.size
                  go_wp2_with fail
                  clear q0 q1 q2 p0 p1 p2 k0 k1 k2 k3 g0 g1 g2 g3 i0 i1 i2 i3 e0 e1 e2 e3 hd hd2 hd3 hk2 hk0 hk1 hbig hbd hkb
                  go_loopw [7] (fun x wr => ∃ (j : Nat) (v : Value) (ps : List PIt) (ao5 : Option Addr) (n5 cap5 c5 : Nat) (bs5 : List Nat), x = .int .u64 j ∧ j ≤ qv ∧ FS B w wr rb cw ao5 n5 cap5 c5 0 bs5 ∧ Blk wr ib #[.int .i64 k, .int .i64 0, .string ⟨#[]⟩, v] 63 ∧
                    OwnL encP wr (ib + 1) 63 4 v ps ∧ (∀ p ∈ ps, RItP f (fun b => ib < b ∧ b < wr.heap.size ∧ v.ownBlock ≠ some b) wr (encP p) p.x) ∧ ps.length ≤ c5 ∧ c5 ≤ 4096 ∧ ib < wr.heap.size ∧
                    (∀ x ∈ bs5, x < 256) ∧ bs5.length ≤ 140737488351232 ∧ Hid (res = rdLp (rdI f) (qv - j) (ps.map (·.x)) bs5 c5)) (fun x _ => qv - (intOf x).toNat)
                  case atStart => exact ⟨0, .slice none 0 0, [], _, n4, cap4, c1, bs4, rfl, Nat.zero_le _, S4, hI4, OwnL.nil _ _ _ _ _, by simp, by simp, hc4, hI4.lt, hb4, by rw [hbl.out]; exact hn4l, hres⟩
                  case round =>
                    clear S4 hI4 hres hb4 hbl
                    obtain ⟨j, v, ps, ao5, n5, cap5, c5, bs5, rfl, hj, Sr, hIr, hown, hels, hpc, hc5b, hibr, hb5, hl5, hinv⟩ := hrel
                    obtain ⟨aov, capv, rfl, _, _, _⟩ := hown.slice
                    have hrbi : rb ≠ ib := by have := Sr.hcw0; omega
                    by_cases hjq : j < qv
                    · have hcall := ih f (by omega) (dep + 1) bs5 ao5 cap5 c5 rb wr B (by omega) hb5 hl5 Sr.hby (by rw [← Sr.hn]; exact Sr.hrb) hB hc5b
                      have hxc := rdI_cnt f c5 bs5
                      obtain ⟨kx, hkx⟩ := rdI_rest f c5 bs5
                      rw [show qv - j = (qv - (j + 1)) + 1 by omega, rdLp] at hinv
                      obtain ⟨⟨xe, xi, xr, xc⟩, hx⟩ : ∃ x, x = rdI f c5 bs5 := ⟨_, rfl⟩
                      rw [← hx] at hcall hxc hinv hkx
                      dsimp only at hinv hxc hkx
                      have hbx : ∀ y ∈ xr, y < 256 := fun y hy => hb5 y (List.mem_of_mem_drop (by rw [← hkx]; exact hy))
                      have hlx : xr.length ≤ 140737488351232 := by rw [hkx, List.length_drop]; omega
                      clear hx hkx hb5 hl5
                      go_wp2_with (go_at_call 62; refine Shut.out ?kit)
                      unfold Shut
                      refine hcall.mono ?_
                      rintro e w5 ⟨cs, rfl, hch5, hz5, hok5⟩
                      dsimp only at hz5 hok5 ⊢
                      have hwz5 := hch5.size
                      have hwzr := Sr.hch.size
                      by_cases hxe : xe = 0
                      · subst hxe
                        rw [if_neg (by simp)] at hinv
                        obtain ⟨hxc1, hxc2⟩ := hxc rfl
                        obtain ⟨hit, ao6, cap6, hrb5, hby5⟩ := hok5 rfl
                        obtain ⟨p, hpx, hpe⟩ := hit.pit
                        rw [hpe] at hit
                        subst hpx
                        obtain rfl : cs = #[.int .i64 p.x.kind, .int .i64 p.x.num, .string p.x.txt, .slice p.ao p.x.lst.length p.cap] := by
                          have : cs.toList.toArray = (encP p).toArray := by rw [hpe]
                          simpa [encP] using this
                        clear hpe
                        have S5 : FS B w w5 rb cw ao6 xr.length cap6 xc 0 xr := ⟨Sr.hch.trans (hch5.mono (fun _ _ h => h)), hrb5, Sr.hcw.chg hch5 (fun h => Sr.ne h.symm), Sr.hcw0, hby5, rfl, hB, hr0⟩
                        have hI5 := hIr.chg hch5 (fun h => hrbi h.symm)
                        have hown5 := hown.chg hch5 (fun g hg h => by have := (hown.lt g hg).1; have := Sr.hcw0; omega)
                        obtain ⟨n6, hn6⟩ : ∃ k, k = xr.length := ⟨_, rfl⟩
                        rw [← hn6] at S5
                        obtain ⟨q0, q1, q2, p0, p1, p2, k0, k1, k2, k3, g0, g1, g2, g3⟩ := S5.facts
                        go_upto_region 35 with fail
                        refine Code.wp_world ?_
                        intro w6 hw6
                        have S6 : FS B w w6 rb cw ao6 n6 cap6 xc 0 xr := by
                          rw [hw6]
                          exact S5.step ((Chg.refl (fun _ => False) w5).alloc _) (fun _ h => h.elim)
                        clear q0 q1 q2 p0 p1 p2 k0 k1 k2 k3 g0 g1 g2 g3
                        have hI6 : Blk w6 ib #[.int .i64 k, .int .i64 0, .string ⟨#[]⟩, .slice aov ps.length capv] 63 := by rw [hw6]; exact hI5.alloc _
                        have hown6 : OwnL encP w6 (ib + 1) 63 4 (.slice aov ps.length capv) ps := by rw [hw6]; exact hown5.alloc _
                        have hK6 : Blk w6 w5.heap.size #[.int .i64 p.x.kind, .int .i64 p.x.num, .string p.x.txt, .slice p.ao p.x.lst.length p.cap] 63 := by rw [hw6]; exact Blk.new _ _ _
                        have hsz6 : w6.heap.size = w5.heap.size + 1 := by rw [hw6]; simp
                        have hch6 : Chg (fun k => k = rb) wr w6 := by rw [hw6]; exact hch5.alloc _
                        have hit6 : RItP f (fun b => wr.heap.size ≤ b ∧ b < w6.heap.size ∧ b < w5.heap.size) w6 (encP p) p.x := by
                          refine hit.imp fun b hb => ⟨⟨hb.1, by omega, hb.2⟩, ?_⟩
                          rw [hw6]
                          exact (below_alloc1 w5 _).block b hb.2
                        clear hw6 hit S5 hI5 hown5 hcall hxc hz5 hok5 hrb5 hby5 hch5
                        obtain ⟨kb, hkb⟩ : ∃ c, c = w5.heap.size := ⟨_, rfl⟩
                        rw [← hkb] at hK6 hsz6 hit6 hwz5 ⊢
                        clear hkb
                        obtain ⟨i0, i1, i2, i3⟩ := blk4 hI6
                        obtain ⟨m0, m1, m2, m3⟩ := blk4 hK6
                        have q2 : w6.cell? ⟨rb, 2, none⟩ = some (.int .i64 0) := S6.hrb.cellAt rfl
                        have hpl : ps.length ≤ 4096 := by omega
                        replace hsz6 := Lib.hid hsz6
                        replace hn6 := Lib.hid hn6
                        go_wp2_with (at_builtin; refine Shut.out ?kap)
                        unfold Shut
                        refine wpList_app1g rfl _ _ 61 rfl Try.underlying61 hi hz0 hz1 hz2 rfl (by decide) (enc := encP) p rfl hown6 rfl (encP_len _) (encP_one _) (by omega) (by unfold maxLen; omega) (by have := hsz6.out; omega) (fun g cap7 w7 hown7 hgr7 => ?_)
                        have hnI : (Value.slice aov ps.length capv).ownBlock ≠ some ib := fun h => by have := (hown.lt ib h).1; omega
                        have hI7 := hgr7.blk hI6 hnI
                        have S7 := S6.step (Chg.of_grown hgr7.grown) (fun i h => by have := (hown.lt i h).1; omega)
                        have hg7 := hown7.lt g rfl
                        have hsz7 := hgr7.grown.size
                        have hown8 : OwnL encP (w7.setCell ⟨ib, 3, none⟩ (.slice (some ⟨g, 0, none⟩) (ps.length + 1) cap7)) (ib + 1) 63 4 (.slice (some ⟨g, 0, none⟩) (ps.length + 1) cap7) (ps ++ [p]) :=
                          hown7.chg ((Chg.refl (fun k => k = ib) w7).setCell ⟨ib, 3, none⟩ _ (fun _ => rfl)) (fun g' hg' h => by have := (hown7.lt g' hg').1; omega)
                        have S8 := S7.step ((Chg.refl (fun k => k = ib) w7).setCell ⟨ib, 3, none⟩ (.slice (some ⟨g, 0, none⟩) (ps.length + 1) cap7) (fun _ => rfl)) (fun k h => by omega)
                        have hI8 : Blk (w7.setCell ⟨ib, 3, none⟩ (.slice (some ⟨g, 0, none⟩) (ps.length + 1) cap7)) ib #[.int .i64 k, .int .i64 0, .string ⟨#[]⟩, .slice (some ⟨g, 0, none⟩) (ps.length + 1) cap7] 63 := hI7.set 3 _
                        have hheap : ∀ b, b < w6.heap.size → b ≠ ib → (Value.slice aov ps.length capv).ownBlock ≠ some b → (w7.setCell ⟨ib, 3, none⟩ (.slice (some ⟨g, 0, none⟩) (ps.length + 1) cap7)).heap[b]? = w6.heap[b]? := fun b hb hbi hbo => by
                          rw [((Chg.refl (fun k => k = ib) w7).setCell ⟨ib, 3, none⟩ (.slice (some ⟨g, 0, none⟩) (ps.length + 1) cap7) (fun _ => rfl)).block b (by omega) hbi]
                          exact hgr7.grown.block b hb (Ne.symm hbo)
                        have hplace : ∀ b, b < w6.heap.size → (Value.slice aov ps.length capv).ownBlock ≠ some b → (Value.slice (some ⟨g, 0, none⟩) (ps.length + 1) cap7).ownBlock ≠ some b := fun b hb hbo h => by
                          rcases hgr7.place with e | ⟨g', e, hg'⟩
                          · rw [e] at h; exact hbo h
                          · rw [e] at h; cases h; omega
                        have hels8 : ∀ q ∈ ps ++ [p], RItP f (fun b => ib < b ∧ b < (w7.setCell ⟨ib, 3, none⟩ (.slice (some ⟨g, 0, none⟩) (ps.length + 1) cap7)).heap.size ∧ (Value.slice (some ⟨g, 0, none⟩) (ps.length + 1) cap7).ownBlock ≠ some b) (w7.setCell ⟨ib, 3, none⟩ (.slice (some ⟨g, 0, none⟩) (ps.length + 1) cap7)) (encP q) q.x := by
                          intro q hq
                          have hs6 := hsz6.out
                          rcases List.mem_append.1 hq with hq | hq
                          · refine (hels q hq).imp fun b hb => ⟨⟨hb.1, by simp; omega, hplace b (by omega) hb.2.2⟩, ?_⟩
                            rw [hheap b (by omega) (by omega) hb.2.2]
                            exact hch6.block b hb.2.1 (by have := Sr.hcw0; omega)
                          · obtain rfl : q = p := by simpa using hq
                            have hbo : ∀ b, wr.heap.size ≤ b → (Value.slice aov ps.length capv).ownBlock ≠ some b := fun b hb h => by have := (hown.lt b h).2; omega
                            exact hit6.imp fun b hb => ⟨⟨by omega, by simp; omega, hplace b hb.2.1 (hbo b hb.1)⟩, hheap b hb.2.1 (by omega) (hbo b hb.1)⟩
                        have hinv8 : Hid (res = rdLp (rdI f) (qv - (j + 1)) ((ps ++ [p]).map (·.x)) xr xc) := by
                          rw [List.map_append]; exact hinv
                        have f3 := hI7.frozen 3
                        have i3' : w7.cell? ⟨ib, 3, none⟩ = some (.slice aov ps.length capv) := hI7.cellAt rfl
                        clear hinv hels hit6 hheap hplace S7 hI7 hgr7 hown6 hown7 S6 hI6 hK6 i0 i1 i2 i3 m0 m1 m2 m3 hown hIr Sr q2
                        go_wp2_with fail
                        go_roundw
                        case rel => exact ⟨j + 1, _, ps ++ [p], ao6, n6, cap6, xc, xr, rfl, by omega, S8, hI8, hown8, hels8, by simp; omega, hxc2, by simp; omega, hbx, hlx, hinv8⟩
                        case measure => simp [intOf]; omega
                      · have hrv := hinv.out
                        rw [if_pos hxe] at hrv
                        obtain ⟨hz, ao6, n6, cap6, c6, hrb5⟩ := hz5 hxe
                        subst hz
                        have hxd : ((xe : Int) != 0) = true := by simpa using hxe
                        have hcw5 := Sr.hcw.chg hch5 (fun h => Sr.ne h.symm)
                        have hch5w := Sr.hch.trans (hch5.mono (fun _ _ h => h))
                        have q2 : w5.cell? ⟨rb, 2, none⟩ = some (.int .i64 xe) := hrb5.cellAt rfl
                        unfold zeroC
                        go_upto_region 35 with fail
                        refine Code.wp_world ?_
                        intro w6 hw6
                        have hcw6 : Blk w6 cw #[.int .i64 0, .int .i64 0, .string ⟨#[]⟩, .slice none 0 0] 63 := by rw [hw6]; exact hcw5.alloc _
                        have hch6 : Chg (fun k => k = rb) w w6 := by rw [hw6]; exact hch5w.alloc _
                        have hrb6 : Blk w6 rb #[.slice ao6 n6 cap6, .int .i64 c6, .int .i64 xe] 121 := by rw [hw6]; exact hrb5.alloc _
                        have hcw0 := Sr.hcw0
                        clear hw6 hcall hxc hz5 hok5 hrb5 hch5 hcw5 hch5w hels hown hIr Sr hinv q2
                        replace hrv := Lib.hid hrv
                        have q2 : w6.cell? ⟨rb, 2, none⟩ = some (.int .i64 xe) := hrb6.cellAt rfl
                        obtain ⟨k0, k1, k2, k3⟩ := blk4 hcw6
                        have g0 := hcw6.frozen 0
                        have g1 := hcw6.frozen 1
                        have g2 := hcw6.frozen 2
                        have g3 := hcw6.frozen 3
                        go_wp2_with fail
                        refine bodyPost_ret (results_cell_row rfl _ _ cw 63 _ (0, 0) _ rfl ((((hcw6.set 0 _).set 1 _).set 2 _).set 3 _) Try.underlying63 rfl (by kernel_rfl)) rfl ?_
                        rw [hrv.out]
                        exact ⟨_, rfl, chg4' hch6 hcw0 _ _ _ _, fun _ => ⟨rfl, _, _, _, _, rb4' hrb6 (by omega) _ _ _ _⟩, fun h => absurd h hxe⟩
                    · obtain rfl : j = qv := by omega
                      have hrv := hinv.out
                      rw [Nat.sub_self, rdLp] at hrv
                      obtain ⟨aoz, capz, hez, hlz⟩ := RItsP.of_own hown (D := fun b => ib < b ∧ b < wr.heap.size) (fun p hp => (hels p hp).imp fun b hb => ⟨⟨hb.1, hb.2.1⟩, rfl⟩) (fun g hg => by have := hown.lt g hg; omega) (by omega)
                      cases hez
                      obtain ⟨i0, i1, i2, i3⟩ := blk4 hIr
                      obtain ⟨q0, q1, q2, p0, p1, p2, k0, k1, k2, k3, g0, g1, g2, g3⟩ := Sr.facts
                      replace hrv := Lib.hid hrv
                      clear hels hinv hown
                      go_wp2_with fail
                      refine bodyPost_ret (results_cell_row rfl _ _ cw 63 _ (0, 0) _ rfl ((((Sr.hcw.set 0 _).set 1 _).set 2 _).set 3 _) Try.underlying63 rfl (by kernel_rfl)) rfl ?_
                      rw [hrv.out]
                      try rw [hkq.out]
                      have hfin := FS.done (f := f) Sr (k := 2) (N := 0) (s := ⟨#[]⟩) rfl rfl (by decide) hlz (fun b hb => ⟨by omega, hb.2⟩)
                      rw [List.length_map] at hfin
                      exact hfin
          · have S4 : FS B w w4 rb cw _ _ _ c1 _ r := ⟨S3.hch.trans (hch4.mono (fun _ _ h => h)), hrb4, S3.hcw.chg hch4 (fun h => S3.ne h.symm), S3.hcw0, S3.hby.imp (hch4.below (by have := S3.hch.size; omega) (by intro k hk h; omega)) (Nat.le_refl _), S3.hn, hB, hr0⟩
            have hrv : res = (qe, nilI, [], 0) := by rw [hres.out, if_pos hqe]
            subst hrv
            clear hnum hrb4 hch4 S3 hres
            have hqd : ((qe : Int) != 0) = true := by simpa using hqe
            obtain ⟨q0, q1, q2, p0, p1, p2, k0, k1, k2, k3, g0, g1, g2, g3⟩ := S4.facts
            go_wp2_with fail
            refine bodyPost_ret (results_cell_row rfl _ _ cw 63 _ (0, 0) _ rfl ((((S4.hcw.set 0 _).set 1 _).set 2 _).set 3 _) Try.underlying63 rfl (by kernel_rfl)) rfl ?_
            exact ⟨_, rfl, FS.chg4 S4 _ _ _ _, fun _ => ⟨rfl, _, _, _, _, FS.rb4 S4 _ _ _ _⟩, fun h => absurd h (hqe)⟩
end Go.Proofs.Ytjgiphoolfhlmaa
