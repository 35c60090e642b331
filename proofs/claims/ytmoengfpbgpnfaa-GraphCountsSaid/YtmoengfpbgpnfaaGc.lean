/- Graph: all uses together are all inputs together: plain Lean; the walk of GraphCounts. -/
import Derived.Test.YtmoengfpbgpnfaaGo
import Derived.IntWalk
namespace Go.Proofs.Ytmoengfpbgpnfaa
open Go.RowKit Go.Shelf
attribute [local go_sem] Oper.semAt_some
set_option linter.unusedVariables false

def sumTo (f : Nat → Nat) : Nat → Nat
  | 0 => 0
  | n + 1 => sumTo f n + f n
theorem sumTo_congr {f g : Nat → Nat} : ∀ (n : Nat), (∀ j, j < n → f j = g j) → sumTo f n = sumTo g n
  | 0, _ => rfl
  | n + 1, h => by rw [sumTo, sumTo, sumTo_congr n (fun j hj => h j (by omega)), h n (by omega)]
theorem sumTo_add {f g : Nat → Nat} : ∀ (n : Nat), sumTo (fun j => f j + g j) n = sumTo f n + sumTo g n
  | 0 => rfl
  | n + 1 => by simp only [sumTo]; rw [sumTo_add n]; omega
theorem sumTo_zero : ∀ (n : Nat), sumTo (fun _ => 0) n = 0
  | 0 => rfl
  | n + 1 => by rw [sumTo, sumTo_zero n]
theorem sumTo_one (x : Int) : ∀ (n : Nat), sumTo (fun j => if x == (j : Int) then 1 else 0) n = if 0 ≤ x ∧ x < n then 1 else 0
  | 0 => by
    have h : ¬ (0 ≤ x ∧ x < ((0 : Nat) : Int)) := by omega
    rw [if_neg h]
    rfl
  | n + 1 => by
    rw [sumTo, sumTo_one x n]
    by_cases h : x = n
    · subst h; simp; omega
    · have h1 : (x == (n : Int)) = false := by simpa using h
      simp only [h1, Bool.false_eq_true, if_false, Nat.add_zero]
      split <;> split <;> omega
theorem sumTo_le {f : Nat → Nat} {c : Nat} : ∀ (n : Nat), (∀ j, j < n → f j ≤ c) → sumTo f n ≤ n * c
  | 0, _ => by simp [sumTo]
  | n + 1, h => by
    have := sumTo_le n (fun j hj => h j (by omega))
    have := h n (by omega)
    rw [sumTo, Nat.add_mul]
    omega

/-- How often fr stands in a list. -/
def cntI (l : List Int) (fr : Int) : Nat := (l.filter (· == fr)).length
theorem cntI_le (l : List Int) (fr : Int) : cntI l fr ≤ l.length := List.length_filter_le _ _
theorem cntI_sum (n : Nat) : ∀ (l : List Int), (∀ x ∈ l, 0 ≤ x ∧ x < (n : Int)) → sumTo (fun j => cntI l j) n = l.length
  | [], _ => by simpa [cntI] using sumTo_zero n
  | x :: r, h => by
    have h1 : ∀ j, j < n → cntI (x :: r) j = (if x == (j : Int) then 1 else 0) + cntI r j := fun j _ => by
      unfold cntI
      rw [List.filter_cons]
      split
      · rw [List.length_cons]; omega
      · omega
    rw [sumTo_congr n h1, sumTo_add, sumTo_one, if_pos (h x (by simp)), cntI_sum n r (fun y hy => h y (by simp [hy]))]
    simp; omega
theorem insK_len (i : Nat) (ins : List Int) (fr : Int) : ∀ (k : Nat), k ≤ ins.length → (insK i ins fr k).length = cntI (ins.take k) fr
  | 0, _ => by simp [insK, cntI]
  | k + 1, hk => by
    rw [insK_succ, List.length_append, insK_len i ins fr k (by omega)]
    unfold cntI
    rw [List.take_succ_eq_append_getElem (by omega), List.filter_append, List.length_append, List.getElem?_eq_getElem (by omega), Option.getD_some]
    congr 1
    by_cases h : (ins[k] == fr) = true <;> simp [h]
def inAt (ops : List TOp) (b : Nat) : List Int := (ops[b]?.map TOp.fIn).getD []
theorem usesK_len (ops : List TOp) (fr : Int) : ∀ (m : Nat), m ≤ ops.length → (usesK ops fr m).length = sumTo (fun b => cntI (inAt ops b) fr) m
  | 0, _ => by simp [usesK, sumTo]
  | m + 1, hm => by
    have hx : ops[m]? = some ops[m] := List.getElem?_eq_getElem (by omega)
    rw [usesK_succ ops fr m _ hx, List.length_append, usesK_len ops fr m (by omega), insK_len _ _ _ _ (Nat.le_refl _), List.take_length, sumTo]
    unfold inAt
    rw [hx]
    rfl
theorem sum_swap (f : Nat → Nat → Nat) (n : Nat) : ∀ (m : Nat), sumTo (fun j => sumTo (fun b => f b j) m) n = sumTo (fun b => sumTo (fun j => f b j) n) m
  | 0 => by simpa [sumTo] using sumTo_zero n
  | m + 1 => by
    simp only [sumTo]
    rw [sumTo_add, sum_swap f n m]
def insN (ops : List TOp) (i : Nat) : Nat := sumTo (fun b => (inAt ops b).length) i
def usesN (ops : List TOp) (i : Nat) : Nat := sumTo (fun j => (usesL ops (j : Nat)).length) i
theorem inAt_get {ops : List TOp} {b : Nat} {o : TOp} (h : ops[b]? = some o) : inAt ops b = o.fIn := by unfold inAt; rw [h]; rfl
theorem counts_eq {ops : List TOp} (hg : OkG ops) : usesN ops ops.length = insN ops ops.length := by
  unfold usesN insN
  show sumTo (fun j => (usesK ops (j : Nat) ops.length).length) ops.length = _
  rw [sumTo_congr (g := fun j => sumTo (fun b => cntI (inAt ops b) j) ops.length) _ (fun j _ => usesK_len ops j ops.length (Nat.le_refl _)), sum_swap (fun b j => cntI (inAt ops b) (j : Nat))]
  refine sumTo_congr _ (fun b hb => ?_)
  have hx : ops[b]? = some ops[b] := List.getElem?_eq_getElem hb
  refine cntI_sum _ _ (fun x hx2 => ?_)
  rw [inAt_get hx] at hx2
  have := hg.ins b _ hx x hx2
  omega
theorem okG_in {ops : List TOp} (h : (gcheck ops).2 = 0) (b : Nat) : (inAt ops b).length ≤ 2 := by
  unfold inAt
  cases hx : ops[b]? with
  | none => simp
  | some o =>
    obtain ⟨hb, rfl⟩ := List.getElem?_eq_some_iff.1 hx
    unfold gcheck at h
    by_cases hl : ops.length < 1 ∨ 16 < ops.length
    · rw [if_pos hl] at h; simp at h
    rw [if_neg hl] at h
    cases hbf : badFrom ops.length ops 0 with
    | some i => rw [hbf] at h; simp at h
    | none =>
      have := badFrom_some ops 0 hbf b hb
      unfold okB at this
      simp only [Bool.and_eq_true, decide_eq_true_eq] at this
      simp only [Option.map_some, Option.getD_some]
      have hw : wantN ops[b].fKind ≤ 2 := by unfold wantN; split <;> (try split) <;> omega
      omega
theorem insN_le {ops : List TOp} (h : (gcheck ops).2 = 0) (i : Nat) : insN ops i ≤ i * 2 := sumTo_le _ (fun j _ => okG_in h j)
theorem uses_le {ops : List TOp} (h : (gcheck ops).2 = 0) (fr : Int) : (usesL ops fr).length ≤ ops.length * 2 := by
  unfold usesL
  rw [usesK_len _ _ _ (Nat.le_refl _)]
  exact sumTo_le _ (fun j _ => Nat.le_trans (cntI_le _ _) (okG_in h j))
theorem usesN_le {ops : List TOp} (h : (gcheck ops).2 = 0) (i : Nat) : usesN ops i ≤ i * (ops.length * 2) := sumTo_le _ (fun j _ => uses_le h j)
theorem rch_back {ops : List TOp} (hg : OkG ops) {a b : Nat} (h : a < b) : rch ops b a = false := by
  cases hr : rch ops b a with
  | false => rfl
  | true => have := (rch_iff.1 hr).le hg; omega

/-- The state of GraphCounts. -/
structure CSt (w : World) (hb cb rb n cap : Nat) (ao : Option Addr) (rs : List Nat) (ops : List TOp) (ab a u : Nat) (wr : World) : Prop where
  hd : Hd [(w.heap.size, .slice ao n cap, 24), (w.heap.size + 1, .bool false, 4), (cb, .int .i64 u, 3), (rb, .slice (some ⟨hb, 0, none⟩) n n, 40), (ab, .int .i64 a, 3)] wr
  part : RPart wr (w.heap.size + 1) hb n 0 rs (rch ops)
  bel : Below w.heap.size w wr
  o1 : w.heap.size + 1 < cb
  o2 : cb < ab
namespace CSt
variable {w : World} {hb cb rb n cap : Nat} {ao : Option Addr} {rs : List Nat} {ops : List TOp} {ab a u : Nat} {wr wr' : World}
theorem keep (h : CSt w hb cb rb n cap ao rs ops ab a u wr) (k : Below wr.heap.size wr wr') : CSt w hb cb rb n cap ao rs ops ab a u wr' := ⟨h.hd.below k (Nat.le_refl _), h.part.below k (Nat.le_refl _), h.bel.trans (k.mono h.bel.size), h.o1, h.o2⟩
theorem own {β : Type} {B : Nat} (F : β → Nat) (hB : w.heap.size ≤ B) : OwnFrom B (fun (s : β) W => CSt w hb cb rb n cap ao rs ops ab a (F s) W) := fun s X Y row hs hg hr =>
  ⟨hs.hd.grown hg (fun r e => (hr r e).2), RPart.own (β := β) B _ _ _ _ _ _ s X Y row hs.part hg hr, ownFrom_below (β := β) (Nat.le_refl _) hB s X Y row hs.bel hg hr, hs.o1, hs.o2⟩
theorem next (h : CSt w hb cb rb n cap ao rs ops ab a u wr) (a' : Nat) : CSt w hb cb rb n cap ao rs ops wr.heap.size a' u (wr.alloc (.cells #[.int .i64 a'] 3)) :=
  ⟨(h.hd.alloc (.int .i64 a') 3).sub (by simp), h.part.chg ((Chg.refl (fun _ => False) wr).alloc _) (fun _ _ _ _ h => h), h.bel.alloc h.bel.size _, h.o1, h.hd.lt (b := cb) (v := .int .i64 u) (T := 3) (by simp)⟩
theorem cblk (h : CSt w hb cb rb n cap ao rs ops ab a u wr) : Blk wr cb #[.int .i64 u] 3 := h.hd.blk (b := cb) (v := .int .i64 u) (T := 3) (by simp)
theorem put (h : CSt w hb cb rb n cap ao rs ops ab a u wr) (u' : Nat) : CSt w hb cb rb n cap ao rs ops ab a u' (wr.setCell ⟨cb, 0, none⟩ (.int .i64 u')) := by
  have hc := h.cblk
  have hrb : rb ≠ cb := fun e => by
    subst e
    exact absurd (blk_inj (h.hd.blk (b := rb) (v := .slice (some ⟨hb, 0, none⟩) n n) (T := 40) (by simp)) hc).2 (by decide)
  have h1 := h.o1
  have h2 := h.o2
  refine ⟨h.hd.set (b := cb) (v := .int .i64 u) (T := 3) (by simp) _ ?_, h.part.chg ((Chg.refl (fun k => k = cb) wr).setCell ⟨cb, 0, none⟩ _ (fun _ => rfl)) (fun b _ _ hm e => ?_), h.bel.setCell (p := ⟨cb, 0, none⟩) (by dsimp only; omega) _, h1, h2⟩
  · intro p hp
    simp only [List.mem_cons, List.not_mem_nil, or_false] at hp ⊢
    rcases hp with rfl | rfl | rfl | rfl | rfl
    · exact .inr ⟨.inl rfl, by dsimp only; omega⟩
    · exact .inr ⟨.inr (.inl rfl), by dsimp only; omega⟩
    · exact .inl rfl
    · exact .inr ⟨.inr (.inr (.inr (.inl rfl))), hrb⟩
    · exact .inr ⟨.inr (.inr (.inr (.inr rfl))), by dsimp only; omega⟩
  · subst e
    rcases hm with rfl | hm
    · exact absurd (blk_inj h.part.hdr hc).2 (by decide)
    · obtain ⟨j, hj, e⟩ := List.getElem_of_mem hm
      have := (h.part.rows j hj).2.2
      rw [e] at this
      exact absurd (blk_inj this hc).2 (by decide)
theorem rc (h : CSt w hb cb rb n cap ao rs ops ab a u wr) {x y : Nat} (hx : x < n) (hy : y < n) : ∃ r, wr.cell? ⟨hb, x, none⟩ = some (.slice (some ⟨r, 0, none⟩) n n) ∧ wr.cell? ⟨r, y, none⟩ = some (.bool (rch ops x y)) := by
  obtain ⟨r, h1, h2⟩ := h.part.hcell (Nat.zero_le x) hx
  exact ⟨r, h2, h.part.rcell (Nat.zero_le x) h1 hy⟩
end CSt

set_option maxRecDepth 100000 in
set_option maxHeartbeats 4000000 in
theorem counts_ok (ops : List TOp) (cap : Nat) (ao : Option Addr) (w : World) (hx : SlA w.heap.size 7 (ROp w.heap.size) w ao cap ops) (hok : (gcheck ops).2 = 0) :
    Calls Try.prog 7 #[.agg #[.slice ao ops.length cap]] w fun e w' => e = .returned (.bool true) ∧ Below w.heap.size w w' := by
  have hG := okG_of_check hok
  have hg := fun W hb => gcheck_all ops cap ao W w.heap.size (Below.size hb) (imp_ops hx hb)
  rw [hok] at hg
  have hR := fun W hb => reaches_ok ops cap ao W w.heap.size (Below.size hb) (imp_ops hx hb) hok
  have hpos := hG.pos
  have hmost := hG.most
  obtain ⟨gb, goff, rfl, hgb, _⟩ := hx.addr (by omega)
  obtain ⟨n, hn⟩ : ∃ n, n = ops.length := ⟨_, rfl⟩
  rw [← hn] at hg hpos hmost hR ⊢
  have hend : usesN ops n = insN ops n := by rw [hn]; exact counts_eq hG
  have hil : ∀ i, i ≤ n → insN ops i ≤ 64 := fun i hi => by have := insN_le hok i; omega
  have hul : ∀ i, i ≤ n → usesN ops i ≤ 1024 := fun i hi => by
    have h1 := usesN_le hok i
    rw [← hn] at h1
    have h2 : i * (n * 2) ≤ 16 * 32 := Nat.mul_le_mul (by omega) (by omega)
    omega
  have hu1 : ∀ fr, (usesL ops fr).length ≤ 64 := fun fr => by have := uses_le hok fr; omega
  replace hend := Lib.hid hend
  replace hil := Lib.hid hil
  replace hul := Lib.hid hul
  replace hu1 := Lib.hid hu1
  replace hn := Lib.hid hn
  replace hok := Lib.hid hok
  replace hG := Lib.hid hG
  refine calls_of_marks Try.func7 rfl ?_
  simp only [Try.ntmps7, List.size_toArray, List.length_cons, List.length_nil, Nat.reduceAdd, Nat.reduceSub, Array.replicate_succ, Array.replicate_zero, List.push_toArray, List.append_toArray, List.nil_append, List.cons_append]
  go_wp2_with fail
  refine (known_any _).mono ?_
  rintro e w1 ⟨rfl, hb1⟩
  have hd1 : Hd [(w.heap.size, .slice (some ⟨gb, goff, none⟩) n cap, 24), (w.heap.size + 1, .bool false, 4)] w1 := by
    have := ((Hd.nil w).alloc (.slice (some ⟨gb, goff, none⟩) n cap) 24).alloc (.bool false) 4
    rw [World.size_alloc] at this
    exact (this.below hb1 (Nat.le_refl _)).sub (by simp)
  have hbel : Below w.heap.size w w1 := (by repeat (first | exact Below.refl _ _ | assumption | refine below_drewN ?_ _ | refine Below.drew ?_ | (refine Below.setCell ?_ (by first | omega | (simp; omega) | simp) _) | (refine Below.alloc ?_ (by first | omega | (simp; omega) | simp) _) | (refine Below.trans ?_ (Below.mono (by assumption) (by first | omega | (simp; omega) | simp)))))
  clear hb1
  have cg := hd1.cell (b := w.heap.size) (v := .slice (some ⟨gb, goff, none⟩) n cap) (T := 24) (by simp)
  go_wp2_with fail
  refine (hg _ ((by repeat (first | exact Below.refl _ _ | assumption | refine below_drewN ?_ _ | refine Below.drew ?_ | (refine Below.setCell ?_ (by first | omega | (simp; omega) | simp) _) | (refine Below.alloc ?_ (by first | omega | (simp; omega) | simp) _) | (refine Below.trans ?_ (Below.mono (by assumption) (by first | omega | (simp; omega) | simp))))))).mono ?_
  rintro e w2 ⟨rfl, hb2⟩
  have hd2 := hd1.below hb2 (Nat.le_refl _)
  have hbel2 := hbel.trans (hb2.mono hbel.size)
  clear hb2 hd1 hbel cg hg w1
  have cg := hd2.cell (b := w.heap.size) (v := .slice (some ⟨gb, goff, none⟩) n cap) (T := 24) (by simp)
  have hl1 := hd2.lt (b := w.heap.size + 1) (v := .bool false) (T := 4) (by simp)
  have hl0 : w.heap.size < w2.heap.size := by omega
  dsimp only
  go_wp2_with fail
  have hd3 := hd2.alloc (.int .i64 0) 3
  have hb3 : Below w.heap.size w (w2.alloc (.cells #[.int .i64 0] 3)) := hbel2.alloc hbel2.size _
  refine (hR _ hb3).mono ?_
  rintro e w4 ⟨v, rfl, ⟨hb, rs, rfl, hP⟩, hb4⟩
  have hd4 := hd3.below hb4 (Nat.le_refl _)
  have hbel4 := hb3.trans (hb4.mono hb3.size)
  replace hP := hP.base (base' := w.heap.size + 1) (by simp; omega)
  have hs4 := hb4.size
  rw [World.size_alloc] at hs4
  clear hb4 hb3 hd3 hd2 hbel2 cg hR
  dsimp only
  go_wp2_with fail
  obtain ⟨cb, hcb⟩ : ∃ cb, cb = w2.heap.size := ⟨_, rfl⟩
  have hL : CSt w hb cb w4.heap.size n cap (some ⟨gb, goff, none⟩) rs ops (w4.heap.size + 1) 0 (usesN ops 0) ((w4.alloc (.cells #[.slice (some ⟨hb, 0, none⟩) n n] 40)).alloc (.cells #[.int .i64 0] 3)) := by
    have := (hd4.alloc (.slice (some ⟨hb, 0, none⟩) n n) 40).alloc (.int .i64 0) 3
    rw [World.size_alloc] at this
    exact ⟨this.sub (by rw [hcb]; simp [usesN, sumTo]), hP.chg (((Chg.refl (fun _ => False) w4).alloc _).alloc _) (fun _ _ _ _ h => h), (hbel4.alloc hbel4.size _).alloc (by have := hbel4.size; simp; omega) _, by omega, by omega⟩
  rw [← hcb]
  generalize (w4.alloc (.cells #[.slice (some ⟨hb, 0, none⟩) n n] 40)).alloc (.cells #[.int .i64 0] 3) = w5 at hL ⊢
  generalize w4.heap.size = rb at hL ⊢
  clear hd4 hbel4 hP hs4 hcb hl0 hl1 w4 w2
  refine wp_loopN [5, 8] 9 200 n (fun k us ds wr => ∃ (ab a : Nat), us = [.int .i64 (insN ops a), .pointer (some ⟨ab, 0, none⟩)] ∧ k = n - a ∧ a ≤ n ∧ CSt w hb cb rb n cap (some ⟨gb, goff, none⟩) rs ops ab a (usesN ops a) wr ∧ Marks w.heap.size ds wr) ⟨_, 0, rfl, by omega, Nat.zero_le _, hL, trivial⟩ ?round
  case round =>
    clear hL
    rintro f k us ds wr ⟨ab, a, rfl, rfl, ha, hL, hM⟩
    simp only [setAll, fillL, List.set_cons_succ, List.set_cons_zero, Nat.reduceAdd, Nat.zero_add]
    have cg := hL.hd.cell (b := w.heap.size) (v := .slice (some ⟨gb, goff, none⟩) n cap) (T := 24) (by simp)
    have ca := hL.hd.cell (b := ab) (v := .int .i64 a) (T := 3) (by simp)
    by_cases han : a < n
    · have haN : a < ops.length := by rw [← hn.out]; exact han
      obtain ⟨o, ho⟩ : ∃ o, ops[a] = o := ⟨_, rfl⟩
      obtain ⟨ao1, cap1, e0, e1, e2, e3, e4, e5, e6, _, hin, _⟩ := ROp.at (imp_ops hx hL.bel) haN ho
      have hia : inAt ops a = o.fIn := inAt_get (by rw [List.getElem?_eq_getElem haN, ho])
      have hsuc : insN ops (a + 1) = insN ops a + o.fIn.length := by unfold insN; rw [sumTo, hia]
      have husuc : usesN ops (a + 1) = usesN ops a + (usesL ops (a : Nat)).length := rfl
      have hi1 := hil.out (a + 1) (by omega)
      have hi2 := hul.out (a + 1) (by omega)
      rw [hsuc] at hi1
      rw [husuc] at hi2
      have hgw : gb < wr.heap.size := Nat.lt_of_lt_of_le hgb hL.bel.size
      replace hsuc := Lib.hid hsuc
      replace husuc := Lib.hid husuc
      replace ho := Lib.hid ho
      clear hia e0 e2 e3 e4 e5 e6 hin
      generalize insN ops a = ia at hsuc hi1 ⊢
      obtain ⟨ua, hua⟩ : ∃ u, u = usesN ops a := ⟨_, rfl⟩
      rw [← hua] at hi2 husuc hL
      replace hua := Lib.hid hua
      have hadd : IntKind.i64.wrap ((ia : Int) + (o.fIn.length : Nat)) = (ia : Int) + (o.fIn.length : Nat) := IntWalk.i64_in _ (by omega)
      go_wp2_with fail
      refine (callsIn_wide.1 (uses_in Fence.wide 8 trivial rfl (some ⟨gb, goff, none⟩) n cap a wr)).mono ?_
      rintro e w7 ⟨rfl, hw7⟩
      clear cg ca hadd e1
      have hbe : Below wr.heap.size wr w7 := by rw [hw7]; exact ((Below.refl _ _).alloc (Nat.le_refl _) _).alloc (by simp) _
      have hL7 := hL.keep hbe
      have hc7 : Chg (fun _ => False) wr w7 := by rw [hw7]; exact ((Chg.refl _ _).alloc _).alloc _
      have hM7 := hM.chg hc7 (fun _ h => h.elim)
      have hu := ((Hd.nil wr).alloc (.slice (some ⟨gb, goff, none⟩) n cap) 24).alloc (.int .i64 a) 3
      rw [World.size_alloc, ← hw7] at hu
      have hub3 := hL.bel.size
      have hul := hbe.size
      have hcu : cb < wr.heap.size := hL.cblk.lt
      generalize wr.heap.size = ub at hu hub3 hcu ⊢
      clear hw7 hL hM hbe hc7 hgw
      go_upto_region 100 with fail
      have c1 := hu.cell (b := ub) (v := .slice (some ⟨gb, goff, none⟩) n cap) (T := 24) (by simp)
      have c2 := hu.cell (b := ub + 1) (v := .int .i64 a) (T := 3) (by simp)
      have hu1l : ub < w7.heap.size := World.lt_of_cell c1
      have hu2l : ub + 1 < w7.heap.size := World.lt_of_cell c2
      rw [hn.out] at c1
      have hsq := uses_stops Fence.wide (8 - 1) trivial rfl (by omega) ub (ub + 1) w.heap.size (fun i => i < w.heap.size ∨ i = ub + 1) ops (some ⟨gb, goff, none⟩) cap (a : Int) w7
        (fun i hi => .inl hi) (.inr rfl) (fun i hi => by have := hL7.bel.size; rcases hi with hi | rfl <;> omega) hu1l (imp_ops hx hL7.bel) c1 c2
      have hMl := hM7.lt
      have hua0 : CSt w hb cb rb n cap (some ⟨gb, goff, none⟩) rs ops ab a (ua + ([] : List (UseOf ops a)).length) w7 := hL7
      refine (wpIn_wide (n := 8)).1 ?_
      refine wpIn_rangeFunc_ownG (α := UseOf ops a) rfl (by omega) (gf := 21) (lb := #[.pointer (some ⟨ub, 0, none⟩), .pointer (some ⟨ub + 1, 0, none⟩)]) rfl trivial (enters_of Try.func21 (by kernel_rfl) rfl)
        hsq KeepS.trans (fun W l o o' h1 h2 h3 h4 => keepS_put o' (by have := hL7.bel.size; rintro (h | h) <;> omega)) (Below.refl _ _) (fun _ => rfl)
        (fun pre W => CSt w hb cb rb n cap (some ⟨gb, goff, none⟩) rs ops ab a (ua + pre.length) W ∧ Marks w.heap.size ds W ∧ ub + 1 < W.heap.size)
        (fun _ _ _ => False) (OwnFrom.and (CSt.own _ hL7.bel.size) (OwnFrom.and (ownFrom_marks hMl) (fun s X Y row hs hg hr => Nat.lt_of_lt_of_le hs hg.size))) (fun _ _ _ _ _ h _ _ => h) ⟨hua0, hM7, hu2l⟩ ?a1 ?assign ?body ?done ?stop
      case assign =>
        intro l x W K hK
        gi_wp2
        exact hK
      case stop =>
        rintro D c pre W _ _ h _
        exact h.elim
      case body =>
        rintro l pre x W ⟨hL8, hM8, hz8⟩ hpl
        obtain ⟨⟨b, kx⟩, hxu⟩ := x
        have hbn := uses_lt hG.out hxu
        rw [← hn.out] at hbn
        have hrt : rch ops a b = true := rch_iff.2 (.step (edge_uses.2 ⟨_, hxu, rfl⟩) (.refl _))
        dsimp only at hbn ⊢
        have hrf : rch ops b a = false := rch_back hG.out hbn.1
        obtain ⟨o2, ho2, hk2⟩ := mem_usesL.1 hxu
        obtain ⟨hbN, ho2⟩ := List.getElem?_eq_some_iff.1 ho2
        obtain ⟨hkN, hk2⟩ := List.getElem?_eq_some_iff.1 hk2
        obtain ⟨ao2, cap2, e0, e1, e2, e3, e4, e5, e6, _, hin2, _⟩ := ROp.at (imp_ops hx hL8.bel) hbN ho2
        obtain ⟨il, hil2⟩ : ∃ il, il = o2.fIn.length := ⟨_, rfl⟩
        rw [← hil2] at e1
        have hkl : kx < il := by omega
        obtain ⟨b2, off2, rfl, hb2, _⟩ := hin2.addr (by omega)
        have cin : W.cell? ⟨b2, off2 + kx, none⟩ = some (.int .i64 a) := by
          obtain ⟨cs, _, h6, rfl, _⟩ := hin2.get kx hkN
          have h7 := h6 0 (by omega)
          rw [Nat.mul_one, Nat.add_zero] at h7
          rw [h7, hk2]
          rfl
        have hub2 : gb < W.heap.size := Nat.lt_of_lt_of_le hgb hL8.bel.size
        have hpre : ua + pre.length < 1024 * 1024 := by have := hu1.out (a : Int); omega
        obtain ⟨up, hup⟩ : ∃ up, up = ua + pre.length := ⟨_, rfl⟩
        rw [← hup] at hpre
        have hcc := hL8.cblk
        rw [← hup] at hcc hL8
        have hput := hL8.put (up + 1)
        have cr := hL8.hd.cell (b := rb) (v := .slice (some ⟨hb, 0, none⟩) n n) (T := 40) (by simp)
        have ca := hL8.hd.cell (b := ab) (v := .int .i64 a) (T := 3) (by simp)
        have cg := hL8.hd.cell (b := w.heap.size) (v := .slice (some ⟨gb, goff, none⟩) n cap) (T := 24) (by simp)
        have cu := hcc.cellAt (i := 0) (v := .int .i64 up) rfl
        have cuf := hcc.frozen 0
        obtain ⟨ra, ha1, ha2⟩ := hL8.rc han hbn.2
        obtain ⟨rb2, hb1, hb3⟩ := hL8.rc hbn.2 han
        rw [hrt] at ha2
        rw [hrf] at hb3
        have hab := hbn.1
        have hbn2 := hbn.2
        have hkn : ∀ S : Nat → Prop, (∀ k, S k → k = cb) → True := fun _ _ => trivial
        have d1 : decide (b ≤ a) = false := by simp; omega
        have d2 : decide (n ≤ b) = false := by simp; omega
        have d3 : decide (il ≤ kx) = false := by simp; omega
        have d4 : decide ((b : Int) ≤ (a : Int)) = false := by simp; omega
        have d5 : decide ((n : Int) ≤ (b : Int)) = false := by simp; omega
        have d6 : decide ((il : Int) ≤ (kx : Int)) = false := by simp; omega
        have d7 : decide ((kx : Int) < 0) = false := by simp
        have d8 : ((a : Int) != (a : Int)) = false := by simp
        have hbz : w.heap.size ≤ W.heap.size := hL8.bel.size
        have ho1 := hL8.o1
        replace hput := Lib.hid hput
        replace hup := Lib.hid hup
        replace hL8 := Lib.hid hL8
        clear hrt hrf e0 e2 e3 e4 e5 e6 hin2 hk2 ho2 hil2 hkN hbN hpl hkn hua0 hL7 hM7
        gi_wp2
        refine round_region_quiet_tail _ 56 (by kernel_rfl) (fun h => by obtain ⟨a, w, h⟩ := h; exact h) (by kernel_rfl) (by kernel_rfl) ?_
        simp only [List.take_succ_cons, List.take_zero, List.drop_succ_cons, List.drop_zero]
        repeat (go_big_quiet_step (fail))
        refine wpQuiet_nil ?_
        intro _ hw'
        obtain ⟨nq, hw''⟩ := hw'
        subst hw''
        go_wp2_with fail
        gi_wp2
        have hcx : Chg (fun k => k = cb) W ((W.drewN nq).setCell ⟨cb, 0, none⟩ (.int .i64 ((up : Int) + 1))) := ((Chg.refl (fun k => k = cb) W).drewN nq).setCell _ _ (fun _ => rfl)
        refine ⟨keepsFrom_of_chg hcx (fun j hj _ => ?_), keepS_chg hcx (fun j hj => ?_), ?_, hM8.chg hcx (fun j e x => by rw [e]; exact hcc.noDef x), Nat.lt_of_lt_of_le hz8 hcx.size⟩
        · rw [hj]
          exact ⟨_, _, _, hcc⟩
        · rcases hj with hj | rfl <;> omega
        · have h1 := hput.out.keep (((Below.refl _ _).drew : Below _ _ (World.drew _)))
          rw [List.length_append, List.length_singleton, show ua + (pre.length + 1) = up + 1 by rw [hup.out]; omega]
          have h2 : CSt w hb cb rb n cap (some ⟨gb, goff, none⟩) rs ops ab a (up + 1) ((W.setCell ⟨cb, 0, none⟩ (.int .i64 ((up + 1 : Nat) : Int))).drewN nq) := hput.out.keep (below_drewN (Below.refl _ _) nq)
          rw [show ((up + 1 : Nat) : Int) = (up : Int) + 1 by omega] at h2
          exact h2
      case done =>
        rintro D ys W hD hys ⟨hL8, hM8, hz8⟩ hK
        have hM9 : Marks w.heap.size ({ target := .collected D, args := #[] } :: ds) W := ⟨D, rfl, by have := hL7.bel.size; omega, hK, fun e he => by
          obtain ⟨D', rfl, h1⟩ := hMl e he
          intro e
          injection e with e1 e2
          injection e1 with e1
          omega, hM8⟩
        have hyl : ys.length = (usesL ops (a : Nat)).length := by rw [← hys, List.length_map]
        rw [hyl, ← husuc.out] at hL8
        clear hL7 hM7 hMl hsq c1 c2 hys hu1l hu2l hub3 hu hul hM8 hK hD hyl hua0 w7
        have ca := hL8.hd.cell (b := ab) (v := .int .i64 a) (T := 3) (by simp)
        dsimp only
        go_wp2_with fail
        refine RoundEnd.intro [.int .i64 ((ia : Int) + (o.fIn.length : Nat)), .pointer (some ⟨W.heap.size, 0, none⟩)] (n - (a + 1)) (by kernel_rfl) (by omega) ⟨_, a + 1, by rw [hsuc.out]; rfl, rfl, by omega, ?_, hM9.chg ((Chg.refl (fun _ => False) W).alloc _) (fun _ h => h.elim)⟩
        have := hL8.next (a + 1)
        rw [show (((a + 1 : Nat)) : Int) = (a : Int) + 1 by omega] at this
        exact this
    · obtain rfl : a = n := by omega
      have hres := hL.hd.blk (b := w.heap.size + 1) (v := .bool false) (T := 4) (by simp)
      have cu := hL.cblk.cellAt (i := 0) (v := .int .i64 (usesN ops a)) rfl
      have ce := hres.cellAt (i := 0) (v := .bool false) rfl
      have cf := hres.frozen 0
      rw [hend.out] at cu
      generalize insN ops a = iv at cu ⊢
      have hee : ((iv : Int) == (iv : Int)) = true := by simp
      go_wp2_with fail
      have hb5 : Below w.heap.size w (wr.setCell ⟨w.heap.size + 1, 0, none⟩ (.bool true)) := hL.bel.setCell (by simp) _
      have hM5 := hM.chg ((Chg.refl (fun k => k = w.heap.size + 1) wr).setCell ⟨w.heap.size + 1, 0, none⟩ (.bool true) (fun _ => rfl)) (fun k e x => by rw [e]; exact hres.noDef x)
      have hr5 := (hres.set 0 (.bool true)).cellAt (i := 0) (v := .bool true) rfl
      refine leavesM_marks ds _ hM5 hb5.size (fun w' hs => ?_)
      have hr6 := hs.cell hr5
      exact ⟨.bool true, by simp [results, Try.results7, go_sem, hr6], rfl, hb5.trans hs.below⟩

set_option maxRecDepth 100000 in
set_option maxHeartbeats 4000000 in
theorem counts_no (ops : List TOp) (cap : Nat) (ao : Option Addr) (w : World) (hx : SlA w.heap.size 7 (ROp w.heap.size) w ao cap ops) (hok : (gcheck ops).2 ≠ 0) :
    Calls Try.prog 7 #[.agg #[.slice ao ops.length cap]] w fun e w' => e = .returned (.bool true) ∧ Below w.heap.size w w' := by
  have hg := fun W hb => gcheck_all ops cap ao W w.heap.size (Below.size hb) (imp_ops hx hb)
  have hR := fun W hb => reaches_no ops cap ao W w.heap.size (Below.size hb) (imp_ops hx hb) hok
  obtain ⟨er, her⟩ : ∃ er, er = (gcheck ops).2 := ⟨_, rfl⟩
  rw [← her] at hok hg
  have hne : ((er : Int) != 0) = true := by simpa using hok
  obtain ⟨n, hn⟩ : ∃ n, n = ops.length := ⟨_, rfl⟩
  rw [← hn] at hg hR ⊢
  replace hn := Lib.hid hn
  replace her := Lib.hid her
  clear hok
  refine calls_of_marks Try.func7 rfl ?_
  simp only [Try.ntmps7, List.size_toArray, List.length_cons, List.length_nil, Nat.reduceAdd, Nat.reduceSub, Array.replicate_succ, Array.replicate_zero, List.push_toArray, List.append_toArray, List.nil_append, List.cons_append]
  go_wp2_with fail
  refine (known_any _).mono ?_
  rintro e w1 ⟨rfl, hb1⟩
  have hd1 : Hd [(w.heap.size, .slice ao n cap, 24), (w.heap.size + 1, .bool false, 4)] w1 := by
    have := ((Hd.nil w).alloc (.slice ao n cap) 24).alloc (.bool false) 4
    rw [World.size_alloc] at this
    exact (this.below hb1 (Nat.le_refl _)).sub (by simp)
  have hbel : Below w.heap.size w w1 := (by repeat (first | exact Below.refl _ _ | assumption | refine below_drewN ?_ _ | refine Below.drew ?_ | (refine Below.setCell ?_ (by first | omega | (simp; omega) | simp) _) | (refine Below.alloc ?_ (by first | omega | (simp; omega) | simp) _) | (refine Below.trans ?_ (Below.mono (by assumption) (by first | omega | (simp; omega) | simp)))))
  clear hb1
  have cg := hd1.cell (b := w.heap.size) (v := .slice ao n cap) (T := 24) (by simp)
  go_wp2_with fail
  refine (hg _ ((by repeat (first | exact Below.refl _ _ | assumption | refine below_drewN ?_ _ | refine Below.drew ?_ | (refine Below.setCell ?_ (by first | omega | (simp; omega) | simp) _) | (refine Below.alloc ?_ (by first | omega | (simp; omega) | simp) _) | (refine Below.trans ?_ (Below.mono (by assumption) (by first | omega | (simp; omega) | simp))))))).mono ?_
  rintro e w2 ⟨rfl, hb2⟩
  have hd2 := hd1.below hb2 (Nat.le_refl _)
  have hbel2 := hbel.trans (hb2.mono hbel.size)
  clear hb2 hd1 hbel cg hg w1
  have cg := hd2.cell (b := w.heap.size) (v := .slice ao n cap) (T := 24) (by simp)
  dsimp only
  go_wp2_with fail
  refine (hR _ hbel2).mono ?_
  rintro e w4 ⟨rfl, hb4⟩
  have hd4 := hd2.below hb4 (Nat.le_refl _)
  have hbel4 := hbel2.trans (hb4.mono hbel2.size)
  have hres := hd4.blk (b := w.heap.size + 1) (v := .bool false) (T := 4) (by simp)
  have ce := hres.cellAt (i := 0) (v := .bool false) rfl
  have cf := hres.frozen 0
  clear cg hd2 hb4 hR
  dsimp only
  go_wp2_with fail
  have hb5 : Below w.heap.size w (w4.setCell ⟨w.heap.size + 1, 0, none⟩ (.bool true)) := hbel4.setCell (by simp) _
  have hr5 := (hres.set 0 (.bool true)).cellAt (i := 0) (v := .bool true) rfl
  refine leavesM_marks [] _ trivial hb5.size (fun w' hs => ?_)
  have hr6 := hs.cell hr5
  exact ⟨.bool true, by simp [results, Try.results7, go_sem, hr6], rfl, hb5.trans hs.below⟩

theorem counts_row (cs : Array Value) (x : TGraph) {w : World} (hx : RGraph w.heap.size w (Value.cells (.agg cs)).toList x) :
    Calls Try.prog 7 #[.agg cs] w fun e w' => e = .returned (.bool true) ∧ Below w.heap.size w w' := by
  obtain ⟨ao, cap, rfl, hs⟩ := graph_agg hx
  by_cases h : (gcheck x.fOps).2 = 0
  · exact counts_ok x.fOps cap ao w hs h
  · exact counts_no x.fOps cap ao w hs h
end Go.Proofs.Ytmoengfpbgpnfaa
