/- Wire: reading an item. -/
import Derived.Test.YtjgiphoolfhlmaaWv
import Derived.Deep.Cut
namespace Go.Proofs.Ytjgiphoolfhlmaa
open Go.RowKit
set_option linter.unusedVariables false

theorem rdN_lt : ∀ (bs : List Nat) (i acc : Nat), (∀ x ∈ bs, x < 256) → acc < 128 ^ i → i ≤ 9 → (rdN i acc bs).2.1 < 18446744073709551616 ∧ (rdN i acc bs).2.2 ≤ i + bs.length
  | [], i, acc, _, _, _ => by rw [rdN]; exact ⟨by simp, by simp⟩
  | c :: r, i, acc, hb, ha, hi => by
    rw [rdN]
    by_cases h1 : (i = 9 ∧ 1 < c) ∨ (c = 0 ∧ 0 < i)
    · rw [if_pos h1]; exact ⟨by simp, by simp⟩
    · rw [if_neg h1]
      have hd := digit_or (c := c) rfl ha hi (by omega) (hb c (by simp))
      by_cases h2 : c < 128
      · rw [if_pos h2]; exact ⟨hd.2.1, by simp⟩
      · rw [if_neg h2]
        have := rdN_lt r (i + 1) _ (fun x hx => hb x (by simp [hx])) (hd.2.2 (by omega)) (by omega)
        exact ⟨this.1, by have := this.2; simp; omega⟩
theorem rdN_err : ∀ (bs : List Nat) (i acc : Nat), (rdN i acc bs).1 = 0 ∨ (rdN i acc bs).1 = 3 ∨ (rdN i acc bs).1 = 5
  | [], i, acc => by rw [rdN]; simp
  | c :: r, i, acc => by
    rw [rdN]
    split
    · simp
    · split
      · simp
      · exact rdN_err r _ _

def zeroC : Array Value := #[.int .i64 0, .int .i64 0, .string ⟨#[]⟩, .slice none 0 0]
/-- What reading an item gives. -/
def ItR (f : Nat) (ao : Option Addr) (n cap rb : Nat) (bs : List Nat) (w : World) (r : Nat × Itm × List Nat × Nat) (e : Ending) (w' : World) : Prop :=
  ∃ cs, e = .returned (.tuple #[.agg cs, .int .i64 r.1]) ∧ Chg (fun k => k = rb) w w' ∧ (∃ a' c' : Nat, Blk w' rb #[.slice ao n cap, .int .i64 a', .int .i64 c'] 112) ∧ (r.1 ≠ 0 → cs = zeroC) ∧
    (r.1 = 0 → ∃ at_ : Nat, RItP f (fun b => w.heap.size ≤ b ∧ b < w'.heap.size) w' cs.toList r.2.1 ∧ at_ ≤ n ∧ bs.drop at_ = r.2.2.1 ∧ Blk w' rb #[.slice ao n cap, .int .i64 at_, .int .i64 r.2.2.2] 112)
theorem by_text {w : World} {a : Addr} {cap : Nat} {bs : List Nat} (hc : ∀ j (hj : j < bs.length), w.cell? (a.add j) = some (.int .u8 bs[j])) (hb : ∀ x ∈ bs, x < 256) : (convert 44 9 (.slice (some a) bs.length cap)).run Try.prog w = .ok (.string (toB bs)) w := by
  have := run_convert_bytes_back (P := Try.prog) w 44 9 _ a cap (bs.map UInt8.ofNat) Try.underlying44 Try.underlying5 Try.underlying9 (by
    intro j hj
    have hj' : j < bs.length := by simpa using hj
    rw [hc j hj']
    have := hb bs[j] (List.getElem_mem hj')
    simp [UInt8.toNat_ofNat']
    omega)
  rw [List.length_map] at this
  exact this
theorem toB_size (bs : List Nat) : (toB bs).size = bs.length := by simp [toB, ByteArray.size]

/-- The reader and the result's cells. -/
structure RS (w0 w : World) (rb cw : Nat) (ao : Option Addr) (n cap at_ cnt : Nat) : Prop where
  hch : Chg (fun k => k = rb) w0 w
  hrb : Blk w rb #[.slice ao n cap, .int .i64 at_, .int .i64 cnt] 112
  hcw : Blk w cw #[.int .i64 0, .int .i64 0, .string ⟨#[]⟩, .slice none 0 0] 63
  hcw0 : w0.heap.size ≤ cw
section
variable {w0 w : World} {rb cw : Nat} {ao : Option Addr} {n cap at_ cnt : Nat}
theorem RS.facts (S : RS w0 w rb cw ao n cap at_ cnt) : w.cell? ⟨rb, 0, none⟩ = some (.slice ao n cap) ∧ w.cell? ⟨rb, 1, none⟩ = some (.int .i64 at_) ∧ w.cell? ⟨rb, 2, none⟩ = some (.int .i64 cnt) ∧ w.frozen? ⟨rb, 1, none⟩ = false ∧ w.frozen? ⟨rb, 2, none⟩ = false ∧
    w.cell? ⟨cw, 0, none⟩ = some (.int .i64 0) ∧ w.cell? ⟨cw, 1, none⟩ = some (.int .i64 0) ∧ w.cell? ⟨cw, 2, none⟩ = some (.string ⟨#[]⟩) ∧ w.cell? ⟨cw, 3, none⟩ = some (.slice none 0 0) ∧
    w.frozen? ⟨cw, 0, none⟩ = false ∧ w.frozen? ⟨cw, 1, none⟩ = false ∧ w.frozen? ⟨cw, 2, none⟩ = false ∧ w.frozen? ⟨cw, 3, none⟩ = false :=
  ⟨S.hrb.cellAt rfl, S.hrb.cellAt rfl, S.hrb.cellAt rfl, S.hrb.frozen 1, S.hrb.frozen 2, S.hcw.cellAt rfl, S.hcw.cellAt rfl, S.hcw.cellAt rfl, S.hcw.cellAt rfl, S.hcw.frozen 0, S.hcw.frozen 1, S.hcw.frozen 2, S.hcw.frozen 3⟩
theorem RS.chg4 (S : RS w0 w rb cw ao n cap at_ cnt) (v0 v1 v2 v3 : Value) : Chg (fun k => k = rb) w0 ((((w.setCell ⟨cw, 0, none⟩ v0).setCell ⟨cw, 1, none⟩ v1).setCell ⟨cw, 2, none⟩ v2).setCell ⟨cw, 3, none⟩ v3) := by
  have h := S.hcw0
  exact (((S.hch.setCell ⟨cw, 0, none⟩ v0 (fun h2 => by simp at h2; omega)).setCell ⟨cw, 1, none⟩ v1 (fun h2 => by simp at h2; omega)).setCell ⟨cw, 2, none⟩ v2 (fun h2 => by simp at h2; omega)).setCell ⟨cw, 3, none⟩ v3 (fun h2 => by simp at h2; omega)
theorem RS.drewN (S : RS w0 w rb cw ao n cap at_ cnt) (k : Nat) : RS w0 (w.drewN k) rb cw ao n cap at_ cnt := ⟨S.hch.drewN k, S.hrb.drewN k, S.hcw.drewN k, S.hcw0⟩
theorem RS.ne (S : RS w0 w rb cw ao n cap at_ cnt) : rb ≠ cw := by
  rintro rfl
  have h1 := S.hrb
  have h2 := S.hcw
  unfold Blk at h1 h2
  rw [h1] at h2
  simp at h2
theorem RS.setAt (S : RS w0 w rb cw ao n cap at_ cnt) (at2 : Nat) : RS w0 (w.setCell ⟨rb, 1, none⟩ (.int .i64 at2)) rb cw ao n cap at2 cnt :=
  ⟨S.hch.setCell ⟨rb, 1, none⟩ _ (fun _ => rfl), S.hrb.set 1 _, S.hcw.set_other (p := ⟨rb, 1, none⟩) (Ne.symm S.ne) _, S.hcw0⟩
theorem RS.rb4 (S : RS w0 w rb cw ao n cap at_ cnt) (v0 v1 v2 v3 : Value) : Blk ((((w.setCell ⟨cw, 0, none⟩ v0).setCell ⟨cw, 1, none⟩ v1).setCell ⟨cw, 2, none⟩ v2).setCell ⟨cw, 3, none⟩ v3) rb #[.slice ao n cap, .int .i64 at_, .int .i64 cnt] 112 :=
  (((S.hrb.set_other (p := ⟨cw, 0, none⟩) S.ne v0).set_other (p := ⟨cw, 1, none⟩) S.ne v1).set_other (p := ⟨cw, 2, none⟩) S.ne v2).set_other (p := ⟨cw, 3, none⟩) S.ne v3
theorem RS.setI (S : RS w0 w rb cw ao n cap at_ cnt) (hrb : rb < w0.heap.size) {ib : Nat} (hc : cw < ib) {i : Nat} {v : Value} : RS w0 (w.setCell ⟨ib, i, none⟩ v) rb cw ao n cap at_ cnt := by
  have h0 := S.hcw0
  exact ⟨S.hch.setCell ⟨ib, i, none⟩ v (fun h2 => by simp at h2; omega), S.hrb.set_other (p := ⟨ib, i, none⟩) (by simp; omega) v, S.hcw.set_other (p := ⟨ib, i, none⟩) (by simp; omega) v, h0⟩
theorem heap4 (w : World) (cw : Nat) (v0 v1 v2 v3 : Value) {b : Nat} (hb : b ≠ cw) : ((((w.setCell ⟨cw, 0, none⟩ v0).setCell ⟨cw, 1, none⟩ v1).setCell ⟨cw, 2, none⟩ v2).setCell ⟨cw, 3, none⟩ v3).heap[b]? = w.heap[b]? := by
  have h1 : ∀ (w : World) (i : Nat) (v : Value), (w.setCell ⟨cw, i, none⟩ v).heap[b]? = w.heap[b]? := by
    intro w i v
    by_cases hl : b < w.heap.size
    · exact ((Chg.refl (fun k => k = cw) w).setCell ⟨cw, i, none⟩ v (fun _ => rfl)).block b hl hb
    · rw [Array.getElem?_eq_none (by simp; omega), Array.getElem?_eq_none (by omega)]
  rw [h1, h1, h1, h1]
theorem RS.done {f : Nat} {bs : List Nat} (S : RS w0 w rb cw ao n cap at_ cnt) {k N : Int} {s : ByteArray} {la : Option Addr} {lc : Nat} {ls : List Itm} {D : Nat → Prop} (hk : (Lit.int .i64 k).wf = true) (hN : (Lit.int .i64 N).wf = true) (hs : s.size ≤ 140737488351232)
    (hl : RItsP f D w la lc ls) (hD : ∀ b, D b → cw < b ∧ b < w.heap.size) (hat : at_ ≤ n) :
    ItR (f + 1) ao n cap rb bs w0 (0, .mk k N s ls, bs.drop at_, cnt) (.returned (.tuple #[.agg #[.int .i64 k, .int .i64 N, .string s, .slice la ls.length lc], .int .i64 0]))
      ((((w.setCell ⟨cw, 0, none⟩ (.int .i64 k)).setCell ⟨cw, 1, none⟩ (.int .i64 N)).setCell ⟨cw, 2, none⟩ (.string s)).setCell ⟨cw, 3, none⟩ (.slice la ls.length lc)) := by
  have hc := S.hcw0
  refine ⟨_, rfl, S.chg4 _ _ _ _, ⟨_, _, S.rb4 _ _ _ _⟩, fun h => absurd rfl h, fun _ => ⟨at_, RItP.mk' hk hN hs (hl.imp fun b hb => ⟨⟨by have := hD b hb; omega, by have := hD b hb; simp; omega⟩, heap4 w cw _ _ _ _ (by have := hD b hb; omega)⟩), hat, rfl, S.rb4 _ _ _ _⟩⟩
end

set_option maxRecDepth 100000 in
set_option maxHeartbeats 4000000 in
theorem ritem_any : ∀ (f dep : Nat) (bs : List Nat) (ao : Option Addr) (cap at_ cnt rb : Nat) (w : World) (B : Nat), f + dep = 9 → (∀ x ∈ bs, x < 256) → bs.length ≤ 140737488351232 → RBy B w ao cap bs →
    Blk w rb #[.slice ao bs.length cap, .int .i64 at_, .int .i64 cnt] 112 → B ≤ rb → at_ ≤ bs.length → cnt ≤ 4096 →
    Calls Try.prog 56 #[.pointer (some ⟨rb, 0, none⟩), .int .i64 dep] w (ItR f ao bs.length cap rb bs w (rdI f cnt (bs.drop at_))) := by
  intro f
  induction f using Nat.strongRecOn with
  | _ f ih =>
  intro dep bs ao cap at_ cnt rb w B hf hbs hln hby hr hB hat hcnt
  have hr0 := hr.lt
  obtain ⟨res, hres⟩ : ∃ r, r = rdI f cnt (bs.drop at_) := ⟨_, rfl⟩
  rw [← hres]
  obtain ⟨n, hn⟩ : ∃ n, n = bs.length := ⟨_, rfl⟩
  rw [← hn] at hr hat hln ⊢
  replace hn := Lib.hid hn
  replace hres := Lib.hid hres
  obtain ⟨cw, hcw⟩ : ∃ c, c = w.heap.size := ⟨_, rfl⟩
  have r1 : w.cell? ⟨rb, 2, none⟩ = some (.int .i64 cnt) := hr.cellAt rfl
  have f1 := hr.frozen 2
  go_enter Try.func56, Try.ntmps56
  go_upto_region 2 with fail
  refine Code.wp_world ?_
  intro w1 hw1
  have S1 : RS w w1 rb cw ao n cap at_ (cnt + 1) := by
    rw [hw1]
    refine ⟨((Chg.refl (fun k => k = rb) w).setCell ⟨rb, 2, none⟩ _ (fun _ => rfl)).alloc _, (hr.set 2 _).alloc _, ?_, by omega⟩
    rw [hcw]
    have := Blk.new (w.setCell ⟨rb, 2, none⟩ (.int .i64 ((cnt : Int) + 1))) #[.int .i64 0, .int .i64 0, .string ⟨#[]⟩, .slice none 0 0] 63
    simpa using this
  rw [← hcw]
  clear hw1 hr r1 f1
  replace hcw := Lib.hid hcw
  obtain ⟨c1, hc1⟩ : ∃ c, c = cnt + 1 := ⟨_, rfl⟩
  rw [← hc1] at S1
  by_cases hA : 4096 < c1 ∨ f = 0
  · have hrv : res = (2, nilI, [], 0) := by
      rw [hres.out]
      cases f with
      | zero => rw [rdI]
      | succ f =>
        have hc : 4096 < cnt + 1 := by omega
        cases bs.drop at_ with
        | nil => rw [rdI, if_pos hc]
        | cons _ _ => rw [rdI, if_pos hc]
    subst hrv
    clear hres hc1
    obtain ⟨q0, q1, q2, p1, p2, k0, k1, k2, k3, g0, g1, g2, g3⟩ := S1.facts
    by_cases hc : 4096 < c1
    · have hd : decide ((4096 : Int) < (c1 : Int)) = true := by simp; omega
      go_wp2_with fail
      refine bodyPost_ret (results_cell_tmp rfl _ _ cw _ rfl (run_loadVar_row _ cw 63 _ _ (0, 0) _ ((((S1.hcw.set 0 _).set 1 _).set 2 _).set 3 _) Try.underlying63 rfl (by kernel_rfl))) rfl ?_
      exact ⟨_, rfl, RS.chg4 S1 _ _ _ _, ⟨_, _, RS.rb4 S1 _ _ _ _⟩, fun _ => rfl, fun h => by cases h⟩
    · have hd : decide ((4096 : Int) < (c1 : Int)) = false := by simp; omega
      have hd2 : decide ((8 : Int) < (dep : Int)) = true := by simp; omega
      go_wp2_with fail
      refine bodyPost_ret (results_cell_tmp rfl _ _ cw _ rfl (run_loadVar_row _ cw 63 _ _ (0, 0) _ ((((S1.hcw.set 0 _).set 1 _).set 2 _).set 3 _) Try.underlying63 rfl (by kernel_rfl))) rfl ?_
      exact ⟨_, rfl, RS.chg4 S1 _ _ _ _, ⟨_, _, RS.rb4 S1 _ _ _ _⟩, fun _ => rfl, fun h => by cases h⟩
  · obtain ⟨f, rfl⟩ : ∃ f', f = f' + 1 := ⟨f - 1, by omega⟩
    have hd : decide ((4096 : Int) < (c1 : Int)) = false := by simp; omega
    have hd2 : decide ((8 : Int) < (dep : Int)) = false := by simp; omega
    have hd3 : ¬ 4096 < cnt + 1 := by omega
    have hc4 : c1 ≤ 4096 := by omega
    obtain ⟨q0, q1, q2, p1, p2, k0, k1, k2, k3, g0, g1, g2, g3⟩ := S1.facts
    have hby1 : RBy B w1 ao cap bs := hby.imp (S1.hch.below (by omega) (by intro k hk h; omega)) (Nat.le_refl _)
    by_cases hE : n ≤ at_
    · have hrv : res = (5, nilI, [], 0) := by
        rw [hres.out, List.drop_of_length_le (by rw [← hn.out]; exact hE), rdI, if_neg hd3]
      subst hrv
      clear hres hc1
      have hE2 : decide ((n : Int) ≤ (at_ : Int)) = true := by simp; omega
      go_wp2_with fail
      go_quiet (fail)
      have S1q := S1.drewN nq
      go_wp2_with fail
      refine bodyPost_ret (results_cell_tmp rfl _ _ cw _ rfl (run_loadVar_row _ cw 63 _ _ (0, 0) _ ((((S1q.hcw.set 0 _).set 1 _).set 2 _).set 3 _) Try.underlying63 rfl (by kernel_rfl))) rfl ?_
      exact ⟨_, rfl, RS.chg4 S1q _ _ _ _, ⟨_, _, RS.rb4 S1q _ _ _ _⟩, fun _ => rfl, fun h => by cases h⟩
    · have hpl : at_ < bs.length := by rw [← hn.out]; omega
      obtain ⟨b1, o1, rfl, hb1, _⟩ := SlA.addr hby (by omega)
      obtain ⟨k, hk⟩ : ∃ c, bs[at_] = c := ⟨_, rfl⟩
      have hk256 : k < 256 := by rw [← hk]; exact hbs _ (List.getElem_mem hpl)
      have c0 : w1.cell? ⟨b1, o1 + at_, none⟩ = some (.int .u8 k) := by rw [hby1.at hpl, hk]
      have hE2 : decide ((n : Int) ≤ (at_ : Int)) = false := by simp; omega
      rw [List.drop_eq_getElem_cons hpl, hk, rdI, if_neg hd3, ← hc1] at hres
      replace hc1 := Lib.hid hc1
      go_wp2_with fail
      go_quiet (fail)
      go_wp2_with fail
      go_quiet (fail)
      go_upto_region 8 with fail
      refine Code.wp_world ?_
      intro w2 hw2
      have S2 : RS w w2 rb cw (some ⟨b1, o1, none⟩) n cap (at_ + 1) c1 := by
        rw [hw2]
        exact (S1.drewN _).setAt (at_ + 1)
      clear hw2 c0 q0 q1 q2 p1 p2 k0 k1 k2 k3 g0 g1 g2 g3
      obtain ⟨a2, ha2⟩ : ∃ a, a = at_ + 1 := ⟨_, rfl⟩
      rw [← ha2] at S2 hres
      have ha2n : a2 ≤ n := by omega
      replace ha2 := Lib.hid ha2
      obtain ⟨q0, q1, q2, p1, p2, k0, k1, k2, k3, g0, g1, g2, g3⟩ := S2.facts
      by_cases hk2 : 2 < k
      · have hrv : res = (3, nilI, [], 0) := by rw [hres.out, if_pos hk2]
        subst hrv
        clear hres
        have hkd : decide ((2 : Int) < (k : Int)) = true := by simp; omega
        go_wp2_with fail
        refine bodyPost_ret (results_cell_tmp rfl _ _ cw _ rfl (run_loadVar_row _ cw 63 _ _ (0, 0) _ ((((S2.hcw.set 0 _).set 1 _).set 2 _).set 3 _) Try.underlying63 rfl (by kernel_rfl))) rfl ?_
        exact ⟨_, rfl, RS.chg4 S2 _ _ _ _, ⟨_, _, RS.rb4 S2 _ _ _ _⟩, fun _ => rfl, fun h => by cases h⟩
      · have hkd : decide ((2 : Int) < (k : Int)) = false := by simp; omega
        rw [if_neg hk2] at hres
        have hby2 : RBy B w2 (some ⟨b1, o1, none⟩) cap bs := hby.imp (S2.hch.below (by omega) (by intro k hk h; omega)) (Nat.le_refl _)
        have hnum := rnumber_any bs hbs _ cap a2 c1 rb w2 B hby2 (by rw [← hn.out]; exact S2.hrb) hB (by rw [← hn.out]; exact ha2n)
        have hql := rdN_lt (bs.drop a2) 0 0 (fun x hx => hbs x (List.mem_of_mem_drop hx)) (by decide) (by decide)
        obtain ⟨⟨qe, qv, qk⟩, hq⟩ : ∃ q, q = rdN 0 0 (bs.drop a2) := ⟨_, rfl⟩
        rw [← hq] at hres hnum hql
        rw [← hn.out] at hnum
        rw [List.length_drop, ← hn.out] at hql
        dsimp only at hnum hql
        clear hq
        go_wp2_with (go_at_call 65; refine hnum.mono ?knum)
        case knum =>
        rintro e w3 ⟨rfl, hrb3, hch3⟩
        dsimp only
        have S3 : RS w w3 rb cw (some ⟨b1, o1, none⟩) n cap (a2 + qk) c1 := ⟨S2.hch.trans (hch3.mono (fun _ _ h => h)), hrb3, S2.hcw.chg hch3 (fun h => S2.ne h.symm), S2.hcw0⟩
        clear hnum hrb3 hch3 q0 q1 q2 p1 p2 k0 k1 k2 k3 g0 g1 g2 g3
        obtain ⟨a3, ha3⟩ : ∃ a, a = a2 + qk := ⟨_, rfl⟩
        rw [← ha3] at S3
        have ha3n : a3 ≤ n := by omega
        have hd3 : (bs.drop a2).drop qk = bs.drop a3 := by rw [List.drop_drop, ha3]
        rw [rdBody] at hres
        dsimp only at hres
        rw [hd3] at hres
        replace ha3 := Lib.hid ha3
        clear hd3
        obtain ⟨q0, q1, q2, p1, p2, k0, k1, k2, k3, g0, g1, g2, g3⟩ := S3.facts
        by_cases hqe : qe = 0
        · subst hqe
          rw [if_neg (by simp)] at hres
          go_upto_region 14 with fail
          refine Code.wp_world ?_
          intro w4 hw4
          obtain ⟨ib, hib⟩ : ∃ c, c = w3.heap.size := ⟨_, rfl⟩
          have S4 : RS w w4 rb cw (some ⟨b1, o1, none⟩) n cap a3 c1 := by
            rw [hw4]
            exact ⟨S3.hch.alloc _, S3.hrb.alloc _, S3.hcw.alloc _, S3.hcw0⟩
          have hI4 : Blk w4 ib #[.int .i64 k, .int .i64 0, .string ⟨#[]⟩, .slice none 0 0] 63 := by
            rw [hw4, hib]
            exact Blk.new _ _ _
          have hci : cw < ib := by rw [hib]; exact S3.hcw.lt
          have hsz4 : w4.heap.size = ib + 1 := by rw [hw4, hib]; simp
          rw [← hib]
          clear hw4 q0 q1 q2 p1 p2 k0 k1 k2 k3 g0 g1 g2 g3 S3
          replace hib := Lib.hid hib
          replace hsz4 := Lib.hid hsz4
          obtain ⟨i0, i1, i2, i3⟩ := blk4 hI4
          have e0 := hI4.frozen 0
          have e1 := hI4.frozen 1
          have e2 := hI4.frozen 2
          have e3 := hI4.frozen 3
          obtain ⟨q0, q1, q2, p1, p2, k0, k1, k2, k3, g0, g1, g2, g3⟩ := S4.facts
          by_cases hk0 : k = 0
          · rw [if_pos hk0] at hres
            have hkb : ((k : Int) == 0) = true := by simp; omega
            have hz := zag_bits hql.1
            obtain ⟨zv, hzv⟩ : ∃ z, z = unz qv := ⟨_, rfl⟩
            rw [← hzv] at hz hres
            obtain ⟨hz1, hz2⟩ := hz
            have hrv := hres.out
            clear hres hzv
            go_upto_region 16 with fail
            refine Code.wp_world ?_
            intro w5 hw5
            have S5 : RS w w5 rb cw (some ⟨b1, o1, none⟩) n cap a3 c1 := by
              rw [hw5]
              exact S4.setI hr0 hci
            have hI5 : Blk w5 ib #[.int .i64 k, .int .i64 zv, .string ⟨#[]⟩, .slice none 0 0] 63 := by
              rw [hw5]
              exact hI4.set 1 _
            have hsz5 : w5.heap.size = ib + 1 := by rw [hw5]; simpa using hsz4.out
            clear hw5 q0 q1 q2 p1 p2 k0 k1 k2 k3 g0 g1 g2 g3 S4 hI4 i0 i1 i2 i3 e0 e1 e2 e3 hz1
            obtain ⟨i0, i1, i2, i3⟩ := blk4 hI5
            obtain ⟨q0, q1, q2, p1, p2, k0, k1, k2, k3, g0, g1, g2, g3⟩ := S5.facts
            replace hrv := Lib.hid hrv
            go_wp2_with fail
            refine bodyPost_ret (results_cell_tmp rfl _ _ cw _ rfl (run_loadVar_row _ cw 63 _ _ (0, 0) _ ((((S5.hcw.set 0 _).set 1 _).set 2 _).set 3 _) Try.underlying63 rfl (by kernel_rfl))) rfl ?_
            rw [hrv.out]
            have hk0' : (k : Int) = 0 := by omega
            rw [hk0']
            exact RS.done S5 (k := 0) (ls := []) (D := fun _ => False) rfl hz2 (by decide) (RItsP.nil _ _ _) (fun _ h => h.elim) ha3n
          · have hkb : ((k : Int) == 0) = false := by simp; omega
            rw [if_neg hk0] at hres
            by_cases hbig : 9223372036854775807 < qv
            · have hbd : decide ((9223372036854775807 : Int) < (qv : Int)) = true := by simp; omega
              have hrv : res = (3, nilI, [], 0) := by rw [hres.out, if_pos hbig]
              subst hrv
              clear hres
              go_wp2_with fail
              refine bodyPost_ret (results_cell_tmp rfl _ _ cw _ rfl (run_loadVar_row _ cw 63 _ _ (0, 0) _ ((((S4.hcw.set 0 _).set 1 _).set 2 _).set 3 _) Try.underlying63 rfl (by kernel_rfl))) rfl ?_
              exact ⟨_, rfl, RS.chg4 S4 _ _ _ _, ⟨_, _, RS.rb4 S4 _ _ _ _⟩, fun _ => rfl, fun h => by cases h⟩
            · have hbd : decide ((9223372036854775807 : Int) < (qv : Int)) = false := by simp; omega
              rw [if_neg hbig] at hres
              by_cases hk1 : k = 1
              · have hkb1 : ((k : Int) == 1) = true := by simp; omega
                rw [if_pos hk1] at hres
                by_cases hshort : n - a3 < qv
                · have hrv : res = (5, nilI, [], 0) := by rw [hres.out, if_pos (by rw [List.length_drop, ← hn.out]; exact hshort)]
                  subst hrv
                  clear hres
                  have hsd : decide ((n : Int) - (a3 : Int) < (qv : Int)) = true := by simp; omega
                  go_wp2_with fail
                  go_quiet (fail)
                  have S4q := S4.drewN nq
                  go_wp2_with fail
                  refine bodyPost_ret (results_cell_tmp rfl _ _ cw _ rfl (run_loadVar_row _ cw 63 _ _ (0, 0) _ ((((S4q.hcw.set 0 _).set 1 _).set 2 _).set 3 _) Try.underlying63 rfl (by kernel_rfl))) rfl ?_
                  exact ⟨_, rfl, RS.chg4 S4q _ _ _ _, ⟨_, _, RS.rb4 S4q _ _ _ _⟩, fun _ => rfl, fun h => by cases h⟩
                · rw [if_neg (by rw [List.length_drop, ← hn.out]; exact hshort)] at hres
                  have hsd : decide ((n : Int) - (a3 : Int) < (qv : Int)) = false := by simp; omega
                  have hby4 : RBy B w4 (some ⟨b1, o1, none⟩) cap bs := hby.imp (S4.hch.below (by omega) (by intro k hk h; omega)) (Nat.le_refl _)
                  have hcapn : n ≤ cap := by rw [hn.out]; exact hby.1
                  have htl : ((bs.drop a3).take qv).length = qv := by rw [List.length_take, List.length_drop, ← hn.out]; omega
                  have htb : ∀ x ∈ (bs.drop a3).take qv, x < 256 := fun x hx => hbs x (List.mem_of_mem_drop (List.mem_of_mem_take hx))
                  have htc : ∀ (v : World), (∀ o, v.cell? ⟨b1, o, none⟩ = w4.cell? ⟨b1, o, none⟩) → ∀ j (hj : j < ((bs.drop a3).take qv).length), v.cell? ((⟨b1, o1 + a3, none⟩ : Addr).add j) = some (.int .u8 ((bs.drop a3).take qv)[j]) := by
                    intro v hv j hj
                    have hj2 : a3 + j < bs.length := by rw [htl] at hj; rw [← hn.out]; omega
                    rw [show (⟨b1, o1 + a3, none⟩ : Addr).add j = ⟨b1, o1 + (a3 + j), none⟩ by unfold Addr.add; split <;> simp_all [Nat.add_assoc], hv, hby4.at hj2]
                    simp
                  have hT1 : ∀ (j c : Nat), (convert 44 9 (.slice (some ⟨b1, o1 + a3, none⟩) qv c)).run Try.prog (w4.drewN j) = .ok (.string (toB ((bs.drop a3).take qv))) (w4.drewN j) := by
                    intro j c
                    have := by_text (cap := c) (htc (w4.drewN j) (fun o => rfl)) htb
                    rwa [htl] at this
                  have hts : (toB ((bs.drop a3).take qv)).size ≤ 140737488351232 := by rw [toB_size, htl]; omega
                  have hT0 : ∀ (a : Addr) (j c : Nat), qv = 0 → (convert 44 9 (.slice (some a) 0 c)).run Try.prog (w4.drewN j) = .ok (.string (toB ((bs.drop a3).take qv))) (w4.drewN j) := by
                    intro a j c h0
                    have := by_text (w := w4.drewN j) (a := a) (cap := c) (bs := []) (fun j hj => absurd hj (by simp)) (by simp)
                    rw [h0, List.take_zero]
                    exact this
                  obtain ⟨T, hT⟩ : ∃ T, T = toB ((bs.drop a3).take qv) := ⟨_, rfl⟩
                  rw [← hT] at hres hT1 hts hT0
                  have hrv := Lib.hid hres.out
                  have hd4 : (bs.drop a3).drop qv = bs.drop (a3 + qv) := by rw [List.drop_drop]
                  rw [hd4] at hrv
                  clear hres hT hd4 htc htl htb
                  have hcz : (cap = a3 ∧ qv = 0) ∨ ¬ cap = a3 := by omega
                  replace hrv := hrv
                  have hfin : ∀ (w5 : World) (j : Nat), w5 = (w4.drewN j).setCell ⟨ib, 2, none⟩ (.string T) → RS w w5 rb cw (some ⟨b1, o1, none⟩) n cap a3 c1 ∧ Blk w5 ib #[.int .i64 k, .int .i64 0, .string T, .slice none 0 0] 63 := by
                    rintro w5 j rfl
                    exact ⟨(S4.drewN j).setI hr0 hci, (hI4.drewN j).set 2 _⟩
                  have hkq : Hid ((k : Int) = 1) := Lib.hid (by omega)
                  clear hk1 hby4 hk hk2 hk0
                  rcases hcz with ⟨hcz, hq0⟩ | hcz
                  · subst hq0
                    replace hT0 := fun a j c => hT0 a j c rfl
                    go_wp2_with fail
                    go_quiet (fail)
                    go_wp2_with fail
                    refine wp_region_quiet_tail 18 (by kernel_rfl) (by kernel_rfl) ?_
                    simp only [List.take_succ_cons, List.take_zero, List.drop_succ_cons, List.drop_zero]
                    repeat (go_big_quiet_step (fail))
                    refine wpQuiet_nil ?_
                    intro _ hw'
                    obtain ⟨nq2, hw''⟩ := hw'
                    subst hw''
                    go_upto_region 23 with fail
                    refine Code.wp_world ?_
                    intro w5 hw5
                    obtain ⟨S5, hI5⟩ := hfin w5 _ hw5
                    clear hw5 q0 q1 q2 p1 p2 k0 k1 k2 k3 g0 g1 g2 g3 S4 hI4 i0 i1 i2 i3 e0 e1 e2 e3 hT0 hT1 hfin
                    obtain ⟨q0, q1, q2, p1, p2, k0, k1, k2, k3, g0, g1, g2, g3⟩ := S5.facts
                    go_upto_region 24 with fail
                    refine Code.wp_world ?_
                    intro w6 hw6
                    have S6 : RS w w6 rb cw (some ⟨b1, o1, none⟩) n cap (a3 + 0) c1 := by
                      rw [hw6]
                      exact S5.setAt (a3 + 0)
                    have hI6 : Blk w6 ib #[.int .i64 k, .int .i64 0, .string T, .slice none 0 0] 63 := by
                      rw [hw6]
                      exact hI5.set_other (p := ⟨rb, 1, none⟩) (by have := S5.hcw0; simp; omega) _
                    clear hw6 q0 q1 q2 p1 p2 k0 k1 k2 k3 g0 g1 g2 g3 S5 hI5
                    obtain ⟨i0, i1, i2, i3⟩ := blk4 hI6
                    obtain ⟨q0, q1, q2, p1, p2, k0, k1, k2, k3, g0, g1, g2, g3⟩ := S6.facts
                    go_wp2_with fail
                    refine bodyPost_ret (results_cell_tmp rfl _ _ cw _ rfl (run_loadVar_row _ cw 63 _ _ (0, 0) _ ((((S6.hcw.set 0 _).set 1 _).set 2 _).set 3 _) Try.underlying63 rfl (by kernel_rfl))) rfl ?_
                    rw [hrv.out]
                    try rw [hkq.out]
                    exact RS.done S6 (k := 1) (N := 0) (s := T) (ls := []) (D := fun _ => False) rfl rfl hts (RItsP.nil _ _ _) (fun _ h => h.elim) (by omega)
                  · clear hT0
                    have hT0 : True := trivial
                    go_wp2_with fail
                    go_quiet (fail)
                    go_wp2_with fail
                    refine wp_region_quiet_tail 18 (by kernel_rfl) (by kernel_rfl) ?_
                    simp only [List.take_succ_cons, List.take_zero, List.drop_succ_cons, List.drop_zero]
                    repeat (go_big_quiet_step (fail))
                    refine wpQuiet_nil ?_
                    intro _ hw'
                    obtain ⟨nq2, hw''⟩ := hw'
                    subst hw''
                    go_upto_region 23 with fail
                    refine Code.wp_world ?_
                    intro w5 hw5
                    obtain ⟨S5, hI5⟩ := hfin w5 _ hw5
                    clear hw5 q0 q1 q2 p1 p2 k0 k1 k2 k3 g0 g1 g2 g3 S4 hI4 i0 i1 i2 i3 e0 e1 e2 e3 hT0 hT1 hfin
                    obtain ⟨q0, q1, q2, p1, p2, k0, k1, k2, k3, g0, g1, g2, g3⟩ := S5.facts
                    go_upto_region 24 with fail
                    refine Code.wp_world ?_
                    intro w6 hw6
                    have S6 : RS w w6 rb cw (some ⟨b1, o1, none⟩) n cap (a3 + qv) c1 := by
                      rw [hw6]
                      exact S5.setAt (a3 + qv)
                    have hI6 : Blk w6 ib #[.int .i64 k, .int .i64 0, .string T, .slice none 0 0] 63 := by
                      rw [hw6]
                      exact hI5.set_other (p := ⟨rb, 1, none⟩) (by have := S5.hcw0; simp; omega) _
                    clear hw6 q0 q1 q2 p1 p2 k0 k1 k2 k3 g0 g1 g2 g3 S5 hI5
                    obtain ⟨i0, i1, i2, i3⟩ := blk4 hI6
                    obtain ⟨q0, q1, q2, p1, p2, k0, k1, k2, k3, g0, g1, g2, g3⟩ := S6.facts
                    go_wp2_with fail
                    refine bodyPost_ret (results_cell_tmp rfl _ _ cw _ rfl (run_loadVar_row _ cw 63 _ _ (0, 0) _ ((((S6.hcw.set 0 _).set 1 _).set 2 _).set 3 _) Try.underlying63 rfl (by kernel_rfl))) rfl ?_
                    rw [hrv.out]
                    try rw [hkq.out]
                    exact RS.done S6 (k := 1) (N := 0) (s := T) (ls := []) (D := fun _ => False) rfl rfl hts (RItsP.nil _ _ _) (fun _ h => h.elim) (by omega)
              · have hkb1 : ((k : Int) == 1) = false := by simp; omega
                rw [if_neg hk1] at hres
                have hkq : Hid ((k : Int) = 2) := Lib.hid (by omega)
                obtain ⟨j0, hi, hz0, hz1, hz2⟩ := info_parts infoI
                have hwz := S4.hch.size
                go_wp2_with fail
                clear q0 q1 q2 p1 p2 k0 k1 k2 k3 g0 g1 g2 g3 i0 i1 i2 i3 e0 e1 e2 e3 hd hd2 hd3 hE hE2 hk hk2 hk0 hk1 hbig hbd hkb hby1 hby2
                go_loopw [135] (fun x wr => ∃ (j : Nat) (v : Value) (ps : List PIt) (a4 c4 : Nat), x = .int .u64 j ∧ j ≤ qv ∧ RS w wr rb cw (some ⟨b1, o1, none⟩) n cap a4 c4 ∧ Blk wr ib #[.int .i64 k, .int .i64 0, .string ⟨#[]⟩, v] 63 ∧
                  OwnL encP wr (ib + 1) 63 4 v ps ∧ (∀ p ∈ ps, RItP f (fun b => ib < b ∧ b < wr.heap.size ∧ v.ownBlock ≠ some b) wr (encP p) p.x) ∧ a4 ≤ n ∧ ps.length ≤ c4 ∧ c4 ≤ 4096 ∧ ib < wr.heap.size ∧
                  Hid (res = rdLp (rdI f) (qv - j) (ps.map (·.x)) (bs.drop a4) c4)) (fun x _ => qv - (intOf x).toNat)
                case atStart => exact ⟨0, .slice none 0 0, [], a3, c1, rfl, Nat.zero_le _, S4, hI4, OwnL.nil _ _ _ _ _, by simp, ha3n, by simp, hc4, hI4.lt, hres⟩
                case round =>
                  clear S4 hI4 hres
                  obtain ⟨j, v, ps, a4, c4, rfl, hj, Sr, hIr, hown, hels, ha4, hpc, hc4b, hibr, hinv⟩ := hrel
                  obtain ⟨aov, capv, rfl, _, _, _⟩ := hown.slice
                  have hrbi : rb ≠ ib := by have := Sr.hcw0; omega
                  by_cases hjq : j < qv
                  · have hcall := ih f (by omega) (dep + 1) bs (some ⟨b1, o1, none⟩) cap a4 c4 rb wr B (by omega) hbs (by rw [← hn.out]; exact hln) (hby.imp (Sr.hch.below (by omega) (by intro k hk h; omega)) (Nat.le_refl _)) (by rw [← hn.out]; exact Sr.hrb) hB (by rw [← hn.out]; exact ha4) hc4b
                    have hxc := rdI_cnt f c4 (bs.drop a4)
                    rw [show qv - j = (qv - (j + 1)) + 1 by omega, rdLp] at hinv
                    obtain ⟨⟨xe, xi, xr, xc⟩, hx⟩ : ∃ x, x = rdI f c4 (bs.drop a4) := ⟨_, rfl⟩
                    rw [← hx] at hcall hxc hinv
                    rw [← hn.out] at hcall
                    dsimp only at hinv hxc
                    clear hx
                    go_wp2_with (go_at_call 56; refine Shut.out ?kit)
                    unfold Shut
                    refine hcall.mono ?_
                    rintro e w5 ⟨cs, rfl, hch5, ⟨a', c', hrb5'⟩, hz5, hok5⟩
                    dsimp only at hz5 hok5 ⊢
                    have hcw5 := Sr.hcw.chg hch5 (fun h => Sr.ne h.symm)
                    have hch5w := Sr.hch.trans (hch5.mono (fun _ _ h => h))
                    have hwz5 := hch5w.size
                    by_cases hxe : xe = 0
                    · subst hxe
                      rw [if_neg (by simp)] at hinv
                      obtain ⟨hxc1, hxc2⟩ := hxc rfl
                      obtain ⟨a5, hit, ha5, hd5, hrb5⟩ := hok5 rfl
                      obtain ⟨p, hpx, hpe⟩ := hit.pit
                      rw [hpe] at hit
                      subst hpx
                      obtain rfl : cs = #[.int .i64 p.x.kind, .int .i64 p.x.num, .string p.x.txt, .slice p.ao p.x.lst.length p.cap] := by
                        have : cs.toList.toArray = (encP p).toArray := by rw [hpe]
                        simpa [encP] using this
                      clear hpe
                      have S5 : RS w w5 rb cw (some ⟨b1, o1, none⟩) n cap a5 xc := ⟨hch5w, hrb5, hcw5, Sr.hcw0⟩
                      have hI5 := hIr.chg hch5 (fun h => hrbi h.symm)
                      have hown5 := hown.chg hch5 (fun g hg h => by have := (hown.lt g hg).1; have := Sr.hcw0; omega)
                      go_upto_region 28 with fail
                      refine Code.wp_world ?_
                      intro w6 hw6
                      have S6 : RS w w6 rb cw (some ⟨b1, o1, none⟩) n cap a5 xc := by
                        rw [hw6]
                        exact ⟨S5.hch.alloc _, S5.hrb.alloc _, S5.hcw.alloc _, S5.hcw0⟩
                      have hI6 : Blk w6 ib #[.int .i64 k, .int .i64 0, .string ⟨#[]⟩, .slice aov ps.length capv] 63 := by rw [hw6]; exact hI5.alloc _
                      have hown6 : OwnL encP w6 (ib + 1) 63 4 (.slice aov ps.length capv) ps := by rw [hw6]; exact hown5.alloc _
                      have hK6 : Blk w6 w5.heap.size #[.int .i64 p.x.kind, .int .i64 p.x.num, .string p.x.txt, .slice p.ao p.x.lst.length p.cap] 63 := by rw [hw6]; exact Blk.new _ _ _
                      have hsz6 : w6.heap.size = w5.heap.size + 1 := by rw [hw6]; simp
                      have hch6 : Chg (fun k => k = rb) wr w6 := by rw [hw6]; exact hch5.alloc _
                      have hit6 : RItP f (fun b => wr.heap.size ≤ b ∧ b < w6.heap.size ∧ b < w5.heap.size) w6 (encP p) p.x := by
                        refine hit.imp fun b hb => ⟨⟨hb.1, by omega, hb.2⟩, ?_⟩
                        rw [hw6]
                        exact (below_alloc1 w5 _).block b hb.2
                      have hwz6 := hch5.size
                      clear hw6 hit S5 hI5 hown5 hcall hxc hz5 hok5 hrb5 hrb5' hch5 hcw5 hch5w
                      obtain ⟨kb, hkb⟩ : ∃ c, c = w5.heap.size := ⟨_, rfl⟩
                      rw [← hkb] at hK6 hsz6 hit6 hwz6 hwz5 ⊢
                      clear hkb
                      obtain ⟨i0, i1, i2, i3⟩ := blk4 hI6
                      obtain ⟨m0, m1, m2, m3⟩ := blk4 hK6
                      have hpl : ps.length ≤ 4096 := by omega
                      replace hsz6 := Lib.hid hsz6
                      go_wp2_with (at_builtin; refine Shut.out ?kap)
                      unfold Shut
                      refine wpList_app1g rfl _ _ 61 rfl Try.underlying61 hi hz0 hz1 hz2 rfl (by decide) (enc := encP) p rfl hown6 rfl (encP_len _) (encP_one _) (by omega) (by unfold maxLen; omega) (by have := hsz6.out; omega) (fun g cap7 w7 hown7 hgr7 => ?_)
                      have hnI : (Value.slice aov ps.length capv).ownBlock ≠ some ib := fun h => by have := (hown.lt ib h).1; omega
                      have hnr : (Value.slice aov ps.length capv).ownBlock ≠ some rb := fun h => by have := (hown.lt rb h).1; have := Sr.hcw0; omega
                      have hnc : (Value.slice aov ps.length capv).ownBlock ≠ some cw := fun h => by have := (hown.lt cw h).1; omega
                      have hI7 := hgr7.blk hI6 hnI
                      have hch7 : Chg (fun k => k = rb) w w7 := S6.hch.then_new (Chg.of_grown hgr7.grown) (fun i hi h => by have := (hown.lt i h).1; have := Sr.hcw0; omega)
                      have S7 : RS w w7 rb cw (some ⟨b1, o1, none⟩) n cap a5 xc := ⟨hch7, hgr7.blk S6.hrb hnr, hgr7.blk S6.hcw hnc, S6.hcw0⟩
                      have hg7 := hown7.lt g rfl
                      have hsz7 := hgr7.grown.size
                      have hown8 : OwnL encP (w7.setCell ⟨ib, 3, none⟩ (.slice (some ⟨g, 0, none⟩) (ps.length + 1) cap7)) (ib + 1) 63 4 (.slice (some ⟨g, 0, none⟩) (ps.length + 1) cap7) (ps ++ [p]) :=
                        hown7.chg ((Chg.refl (fun k => k = ib) w7).setCell ⟨ib, 3, none⟩ _ (fun _ => rfl)) (fun g' hg' h => by have := (hown7.lt g' hg').1; omega)
                      have S8 := S7.setI hr0 hci (i := 3) (v := .slice (some ⟨g, 0, none⟩) (ps.length + 1) cap7)
                      have hI8 : Blk (w7.setCell ⟨ib, 3, none⟩ (.slice (some ⟨g, 0, none⟩) (ps.length + 1) cap7)) ib #[.int .i64 k, .int .i64 0, .string ⟨#[]⟩, .slice (some ⟨g, 0, none⟩) (ps.length + 1) cap7] 63 := hI7.set 3 _
                      have hheap : ∀ b, b < w6.heap.size → b ≠ ib → (Value.slice aov ps.length capv).ownBlock ≠ some b → (w7.setCell ⟨ib, 3, none⟩ (.slice (some ⟨g, 0, none⟩) (ps.length + 1) cap7)).heap[b]? = w6.heap[b]? := fun b hb hbi hbo => by
                        rw [((Chg.refl (fun k => k = ib) w7).setCell ⟨ib, 3, none⟩ (.slice (some ⟨g, 0, none⟩) (ps.length + 1) cap7) (fun _ => rfl)).block b (by omega) hbi]
                        exact hgr7.grown.block b hb (Ne.symm hbo)
                      have hplace : ∀ b, b < w6.heap.size → (Value.slice aov ps.length capv).ownBlock ≠ some b → (Value.slice (some ⟨g, 0, none⟩) (ps.length + 1) cap7).ownBlock ≠ some b := fun b hb hbo h => by
                        rcases hgr7.place with e | ⟨g', e, hg'⟩
                        · rw [e] at h; exact hbo h
                        · rw [e] at h; cases h; omega
                      have hels8 : ∀ q ∈ ps ++ [p], RItP f (fun b => ib < b ∧ b < (w7.setCell ⟨ib, 3, none⟩ (.slice (some ⟨g, 0, none⟩) (ps.length + 1) cap7)).heap.size ∧ (Value.slice (some ⟨g, 0, none⟩) (ps.length + 1) cap7).ownBlock ≠ some b) (w7.setCell ⟨ib, 3, none⟩ (.slice (some ⟨g, 0, none⟩) (ps.length + 1) cap7)) (encP q) q.x := by
                        intro q hq
                        have hs6 := hsz6.out
                        rcases List.mem_append.1 hq with hq | hq
                        · refine (hels q hq).imp fun b hb => ⟨⟨hb.1, by simp; omega, hplace b (by omega) hb.2.2⟩, ?_⟩
                          rw [hheap b (by omega) (by omega) hb.2.2]
                          exact hch6.block b hb.2.1 (by have := Sr.hcw0; omega)
                        · obtain rfl : q = p := by simpa using hq
                          have hbo : ∀ b, wr.heap.size ≤ b → (Value.slice aov ps.length capv).ownBlock ≠ some b := fun b hb h => by have := (hown.lt b h).2; omega
                          exact hit6.imp fun b hb => ⟨⟨by omega, by simp; omega, hplace b hb.2.1 (hbo b hb.1)⟩, hheap b hb.2.1 (by omega) (hbo b hb.1)⟩
                      have hinv8 : Hid (res = rdLp (rdI f) (qv - (j + 1)) ((ps ++ [p]).map (·.x)) (bs.drop a5) xc) := by
                        rw [List.map_append, hd5]; exact hinv
                      have f3 := hI7.frozen 3
                      have i3' : w7.cell? ⟨ib, 3, none⟩ = some (.slice aov ps.length capv) := hI7.cellAt rfl
                      clear hinv hels hit6 hheap hplace S7 hI7 hch7 hgr7 hown6 hown7 S6 hI6 hK6 i0 i1 i2 i3 m0 m1 m2 m3 hown hIr Sr
                      go_wp2_with fail
                      go_roundw
                      case rel =>
                        (repeat apply Exists.intro)
                        exact ⟨⟨j + 1, _, ps ++ [p], a5, xc, rfl, by omega, S8, hI8, hown8, hels8, ha5, by simp; omega, hxc2, by simp; omega, hinv8⟩, rfl⟩
                      case measure => simp [intOf]; omega
                    · have hrv := hinv.out
                      rw [if_pos hxe] at hrv
                      obtain rfl := hz5 hxe
                      have S5 : RS w w5 rb cw (some ⟨b1, o1, none⟩) n cap a' c' := ⟨hch5w, hrb5', hcw5, Sr.hcw0⟩
                      have hxd : ((xe : Int) != 0) = true := by simpa using hxe
                      unfold zeroC
                      go_upto_region 28 with fail
                      refine Code.wp_world ?_
                      intro w6 hw6
                      have S6 : RS w w6 rb cw (some ⟨b1, o1, none⟩) n cap a' c' := by
                        rw [hw6]
                        exact ⟨S5.hch.alloc _, S5.hrb.alloc _, S5.hcw.alloc _, S5.hcw0⟩
                      clear hw6 S5 hcall hxc hz5 hok5 hrb5' hch5 hcw5 hch5w hels hown hIr Sr hinv
                      replace hrv := Lib.hid hrv
                      obtain ⟨q0, q1, q2, p1, p2, k0, k1, k2, k3, g0, g1, g2, g3⟩ := S6.facts
                      go_wp2_with fail
                      rw [hrv.out]
                      refine bodyPost_ret (results_cell_tmp rfl _ _ cw _ rfl (run_loadVar_row _ cw 63 _ _ (0, 0) _ ((((S6.hcw.set 0 _).set 1 _).set 2 _).set 3 _) Try.underlying63 rfl (by kernel_rfl))) rfl ?_
                      exact ⟨_, rfl, RS.chg4 S6 _ _ _ _, ⟨_, _, RS.rb4 S6 _ _ _ _⟩, fun _ => rfl, fun h => absurd h hxe⟩
                  · obtain rfl : j = qv := by omega
                    have hrv := hinv.out
                    rw [Nat.sub_self, rdLp] at hrv
                    obtain ⟨aoz, capz, hez, hlz⟩ := RItsP.of_own hown (D := fun b => ib < b ∧ b < wr.heap.size) (fun p hp => (hels p hp).imp fun b hb => ⟨⟨hb.1, hb.2.1⟩, rfl⟩) (fun g hg => by have := hown.lt g hg; omega) (by omega)
                    cases hez
                    obtain ⟨i0, i1, i2, i3⟩ := blk4 hIr
                    obtain ⟨q0, q1, q2, p1, p2, k0, k1, k2, k3, g0, g1, g2, g3⟩ := Sr.facts
                    replace hrv := Lib.hid hrv
                    clear hels hinv hown
                    go_wp2_with fail
                    refine bodyPost_ret (results_cell_tmp rfl _ _ cw _ rfl (run_loadVar_row _ cw 63 _ _ (0, 0) _ ((((Sr.hcw.set 0 _).set 1 _).set 2 _).set 3 _) Try.underlying63 rfl (by kernel_rfl))) rfl ?_
                    rw [hrv.out]
                    try rw [hkq.out]
                    have hfin := RS.done (f := f) (bs := bs) Sr (k := 2) (N := 0) (s := ⟨#[]⟩) rfl rfl (by decide) hlz (fun b hb => ⟨by omega, hb.2⟩) ha4
                    rw [List.length_map] at hfin
                    exact hfin
        · have hrv : res = (qe, nilI, [], 0) := by rw [hres.out, if_pos hqe]
          subst hrv
          clear hres
          have hqd : ((qe : Int) != 0) = true := by simpa using hqe
          go_wp2_with fail
          refine bodyPost_ret (results_cell_tmp rfl _ _ cw _ rfl (run_loadVar_row _ cw 63 _ _ (0, 0) _ ((((S3.hcw.set 0 _).set 1 _).set 2 _).set 3 _) Try.underlying63 rfl (by kernel_rfl))) rfl ?_
          exact ⟨_, rfl, RS.chg4 S3 _ _ _ _, ⟨_, _, RS.rb4 S3 _ _ _ _⟩, fun _ => rfl, fun h => absurd h hqe⟩
end Go.Proofs.Ytjgiphoolfhlmaa
