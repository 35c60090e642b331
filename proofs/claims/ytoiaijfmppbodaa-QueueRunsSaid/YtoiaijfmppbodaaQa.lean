/- Queue: contracts of at, Len, Credit, Put, Take, New (T = string, int). -/
import Derived.Test.YtoiaijfmppbodaaRows
import Derived.Test.YtoiaijfmppbodaaL1
import Derived.WalkKit
import Derived.WalkSpells
import Derived.WalkLawsBesides
import Derived.Deep.QuietTactic
import Derived.BigQuiet
namespace Go.Proofs.Ytoiaijfmppbodaa
open Go.RowKit

/-- The queue's own block at 'b', its ring's block at 'rb' of 'n' places. -/
structure QS (w : World) (tq te : TypeId) (b rb n first count : Nat) (ring : Array Value) : Prop where
  hn : 1 ≤ n
  hN : n ≤ 64
  hf : first < n
  hc : count ≤ n
  hne : b ≠ rb
  hb : Blk w b #[.slice (some ⟨rb, 0, none⟩) n n, .int .i64 first, .int .i64 count] tq
  hr : Blk w rb ring te
  hs : ring.size = n

def BothQ (b rb : Nat) (k : Nat) : Prop := k = b ∨ k = rb

namespace QS
variable {w w' : World} {tq te : TypeId} {b rb n first count : Nat} {ring : Array Value} {S : Nat → Prop}
theorem drewN (h : QS w tq te b rb n first count ring) (m : Nat) : QS (w.drewN m) tq te b rb n first count ring :=
  ⟨h.hn, h.hN, h.hf, h.hc, h.hne, h.hb, h.hr, h.hs⟩
theorem chg (h : QS w tq te b rb n first count ring) (k : Chg S w w') (h1 : ¬ S b) (h2 : ¬ S rb) : QS w' tq te b rb n first count ring :=
  ⟨h.hn, h.hN, h.hf, h.hc, h.hne, h.hb.chg k h1, h.hr.chg k h2, h.hs⟩
theorem c0 (h : QS w tq te b rb n first count ring) : w.cell? ⟨b, 0, none⟩ = some (.slice (some ⟨rb, 0, none⟩) n n) := h.hb.cellAt rfl
theorem c1 (h : QS w tq te b rb n first count ring) : w.cell? ⟨b, 1, none⟩ = some (.int .i64 first) := h.hb.cellAt rfl
theorem c2 (h : QS w tq te b rb n first count ring) : w.cell? ⟨b, 2, none⟩ = some (.int .i64 count) := h.hb.cellAt rfl
theorem setRing (h : QS w tq te b rb n first count ring) (i : Nat) (v : Value) : QS (w.setCell ⟨rb, i, none⟩ v) tq te b rb n first count (ring.setIfInBounds i v) :=
  ⟨h.hn, h.hN, h.hf, h.hc, h.hne, h.hb.set_other h.hne v, h.hr.set i v, by rw [Array.size_setIfInBounds]; exact h.hs⟩
theorem setFirst (h : QS w tq te b rb n first count ring) (j : Nat) (hj : j < n) : QS (w.setCell ⟨b, 1, none⟩ (.int .i64 j)) tq te b rb n j count ring :=
  ⟨h.hn, h.hN, hj, h.hc, h.hne, h.hb.set 1 _, h.hr.set_other (Ne.symm h.hne) _, h.hs⟩
theorem setCount (h : QS w tq te b rb n first count ring) (j : Nat) (hj : j ≤ n) : QS (w.setCell ⟨b, 2, none⟩ (.int .i64 j)) tq te b rb n first j ring :=
  ⟨h.hn, h.hN, h.hf, hj, h.hne, h.hb.set 2 _, h.hr.set_other (Ne.symm h.hne) _, h.hs⟩
end QS

/-- What is in the queue, in order. -/
def QL (w : World) (tq te : TypeId) (b rb n : Nat) (xs : List Value) : Prop :=
  ∃ first ring, QS w tq te b rb n first xs.length ring ∧ ∀ i, i < xs.length → ring[(first + i) % n]? = xs[i]?

theorem QL.chg {w w' : World} {tq te : TypeId} {b rb n : Nat} {xs : List Value} {S : Nat → Prop} (h : QL w tq te b rb n xs) (k : Chg S w w') (h1 : ¬ S b) (h2 : ¬ S rb) : QL w' tq te b rb n xs := by
  obtain ⟨f, r, hq, hx⟩ := h
  exact ⟨f, r, hq.chg k h1 h2, hx⟩
theorem QL.drewN {w : World} {tq te : TypeId} {b rb n : Nat} {xs : List Value} (h : QL w tq te b rb n xs) (m : Nat) : QL (w.drewN m) tq te b rb n xs := by
  obtain ⟨f, r, hq, hx⟩ := h
  exact ⟨f, r, hq.drewN m, hx⟩

theorem mod_ne {f i j n : Nat} (hi : i < j) (hj : j < n + i) : (f + i) % n ≠ (f + j) % n := by
  intro h
  have h1 : (f + j - (f + i)) % n = 0 := Nat.sub_mod_eq_zero_of_mod_eq h.symm
  have h2 : f + j - (f + i) = j - i := by omega
  rw [h2, Nat.mod_eq_of_lt (by omega)] at h1
  omega

theorem ql_put {ring : Array Value} {xs : List Value} {first n : Nat} (x : Value) (hs : ring.size = n) (hl : xs.length < n)
    (h : ∀ i, i < xs.length → ring[(first + i) % n]? = xs[i]?) :
    ∀ i, i < (xs ++ [x]).length → (ring.setIfInBounds ((first + xs.length) % n) x)[(first + i) % n]? = (xs ++ [x])[i]? := by
  intro i hi
  simp only [List.length_append, List.length_cons, List.length_nil, Nat.zero_add] at hi
  by_cases he : i = xs.length
  · subst he
    have : (first + xs.length) % n < ring.size := by rw [hs]; exact Nat.mod_lt _ (by omega)
    simp [this]
  · have hlt : i < xs.length := by omega
    rw [Array.getElem?_setIfInBounds_ne (Ne.symm (mod_ne hlt (by omega))), h i hlt, List.getElem?_append_left hlt]

theorem ql_take {ring : Array Value} {xs : List Value} {x : Value} {first n : Nat} (z : Value) (hf : first < n) (hl : xs.length < n)
    (h : ∀ i, i < (x :: xs).length → ring[(first + i) % n]? = (x :: xs)[i]?) :
    ∀ i, i < xs.length → (ring.setIfInBounds first z)[((first + 1) % n + i) % n]? = xs[i]? := by
  intro i hi
  have e : ((first + 1) % n + i) % n = (first + (i + 1)) % n := by rw [Nat.mod_add_mod]; congr 1; omega
  have hne : first ≠ (first + (i + 1)) % n := by
    have h0 : (first + 0) % n = first := by rw [Nat.add_zero, Nat.mod_eq_of_lt hf]
    have := mod_ne (f := first) (i := 0) (j := i + 1) (n := n) (by omega) (by omega)
    rw [h0] at this
    exact this
  rw [e, Array.getElem?_setIfInBounds_ne hne, h (i + 1) (by simp; omega)]
  simp

namespace Qstring
set_option maxHeartbeats 400000 in
theorem at_any (w : World) (tq te : TypeId) (b rb n first count i j : Nat) (ring : Array Value) (h : QS w tq te b rb n first count ring) (hi : i ≤ 64) (hj : Hid (j = (first + i) % n)) :
    Calls Try.prog 22 #[.pointer (some ⟨b, 0, none⟩), .int .i64 i] w fun e w' => e = .returned (.int .i64 j) ∧ ∃ m, w' = w.drewN m := by
  have hn := h.hn
  have hN := h.hN
  have hf := h.hf
  have c0 := h.c0
  have c1 := h.c1
  clear h
  go_enter Try.func22, Try.ntmps22
  go_wp2
  go_quiet (fail)
  go_wp2
  go_ret
  exact ⟨by rw [hj.out]; simp, _, rfl⟩

set_option maxHeartbeats 400000 in
theorem len_any (w : World) (tq te : TypeId) (b rb n first count : Nat) (ring : Array Value) (h : QS w tq te b rb n first count ring) :
    Calls Try.prog 11 #[.pointer (some ⟨b, 0, none⟩)] w fun e w' => e = .returned (.int .i64 count) ∧ w = w' := by
  have c2 := h.c2
  clear h
  go_enter Try.func11, Try.ntmps11
  go_wp2
  go_ret
  exact ⟨rfl, rfl⟩

set_option maxHeartbeats 400000 in
theorem len_nil (w : World) :
    Calls Try.prog 11 #[.pointer none] w fun e w' => e = .returned (.int .i64 0) ∧ w = w' := by
  go_enter Try.func11, Try.ntmps11
  go_wp2
  go_ret
  exact ⟨rfl, rfl⟩

set_option maxHeartbeats 400000 in
theorem credit_any (w : World) (tq te : TypeId) (b rb n first count : Nat) (ring : Array Value) (h : QS w tq te b rb n first count ring) :
    Calls Try.prog 8 #[.pointer (some ⟨b, 0, none⟩)] w fun e w' => e = .returned (.int .i64 ((n : Int) - count)) ∧ ∃ m, w' = w.drewN m := by
  have hN := h.hN
  have hc := h.hc
  have c0 := h.c0
  have c2 := h.c2
  clear h
  go_enter Try.func8, Try.ntmps8
  go_wp2
  go_quiet (fail)
  go_wp2
  go_ret
  exact ⟨rfl, _, rfl⟩

set_option maxHeartbeats 400000 in
theorem credit_nil (w : World) :
    Calls Try.prog 8 #[.pointer none] w fun e w' => e = .returned (.int .i64 0) ∧ w = w' := by
  go_enter Try.func8, Try.ntmps8
  go_wp2
  go_ret
  exact ⟨rfl, rfl⟩

set_option maxHeartbeats 400000 in
theorem put_nil (w : World) (x : ByteArray) :
    Calls Try.prog 9 #[.pointer none, .string x] w fun e w' => e = .returned (.int .i64 9) ∧ w = w' := by
  go_enter Try.func9, Try.ntmps9
  go_wp2
  go_ret
  exact ⟨rfl, rfl⟩

set_option maxHeartbeats 400000 in
theorem put_full0 (w : World) (tq te : TypeId) (b rb n first count : Nat) (ring : Array Value) (x : ByteArray) (h : QS w tq te b rb n first count ring) (hc' : count = n) :
    Calls Try.prog 9 #[.pointer (some ⟨b, 0, none⟩), .string x] w fun e w' => e = .returned (.int .i64 10) ∧ ∃ m, w' = w.drewN m := by
  have hN := h.hN
  have c0 := h.c0
  have c2 := h.c2
  clear h
  subst hc'
  go_enter Try.func9, Try.ntmps9
  go_wp2
  go_quiet (fail)
  go_wp2
  go_ret
  exact ⟨rfl, _, rfl⟩

set_option maxHeartbeats 400000 in
theorem put_room0 (w : World) (tq te : TypeId) (b rb n first count : Nat) (ring : Array Value) (x : ByteArray) (h : QS w tq te b rb n first count ring) (hc' : count < n) (j : Nat) (hj : Hid (j = (first + count) % n)) :
    Calls Try.prog 9 #[.pointer (some ⟨b, 0, none⟩), .string x] w fun e w' => e = .returned (.int .i64 0) ∧ ∃ m, w' = ((w.drewN m).setCell ⟨rb, j, none⟩ (.string x)).setCell ⟨b, 2, none⟩ (.int .i64 (count + 1)) := by
  have hd : ((count : Int) == (n : Int)) = false := by simp; omega
  have hn := h.hn
  have hN := h.hN
  have hm : j < n := by rw [hj.out]; exact Nat.mod_lt _ (by omega)
  have hne := h.hne
  have c0 := h.c0
  have c2 := h.c2
  go_enter Try.func9, Try.ntmps9
  go_wp2
  go_quiet (fail)
  go_wp2_with fail
  have h1 := h.drewN nq
  obtain ⟨w1, hw1⟩ : ∃ w1, w1 = w.drewN nq := ⟨_, rfl⟩
  rw [← hw1] at h1 ⊢
  have Hw1 := Lib.hid hw1
  clear hw1 c0 c2 h
  have c0 := h1.c0
  have c2 := h1.c2
  have f2 := h1.hb.frozen 2
  have cr := h1.hr.cellAt (show ring[j]? = some (ring[j]'(by rw [h1.hs]; exact hm)) from Array.getElem?_eq_getElem _)
  have fr := h1.hr.frozen j
  refine wp_region_quiet_tail 12 (by kernel_rfl) (by kernel_rfl) ?_
  simp only [List.take_succ_cons, List.take_zero, List.drop_succ_cons, List.drop_zero]
  repeat (go_big_quiet_step ((go_at_call 22; refine Calls.quiet_of (at_any _ tq te b rb n first count count j ring (h1.drewN _) (by omega) hj))))
  refine wpQuiet_nil ?_
  intro _ hw'
  obtain ⟨nq2, hw''⟩ := hw'
  subst hw''
  go_wp2
  go_ret
  exact ⟨rfl, nq + nq2, by rw [Hw1.out]; simp⟩

set_option maxHeartbeats 400000 in
theorem take_nil (w : World) :
    Calls Try.prog 12 #[.pointer none] w fun e w' => e = .returned (.tuple #[.string ⟨#[]⟩, .int .i64 9]) ∧ w = w' := by
  go_enter Try.func12, Try.ntmps12
  go_wp2
  go_ret2
  exact ⟨rfl, rfl⟩

set_option maxHeartbeats 400000 in
theorem take_none0 (w : World) (tq te : TypeId) (b rb n first : Nat) (ring : Array Value) (h : QS w tq te b rb n first 0 ring) :
    Calls Try.prog 12 #[.pointer (some ⟨b, 0, none⟩)] w fun e w' => e = .returned (.tuple #[.string ⟨#[]⟩, .int .i64 7]) ∧ w = w' := by
  have c2 : w.cell? ⟨b, 2, none⟩ = some (.int .i64 0) := h.c2
  clear h
  go_enter Try.func12, Try.ntmps12
  go_wp2
  go_ret2
  exact ⟨rfl, rfl⟩

set_option maxHeartbeats 1000000 in
theorem take_some0 (w : World) (tq te : TypeId) (b rb n first count : Nat) (ring : Array Value) (x : ByteArray) (h : QS w tq te b rb n first count ring) (hc' : 0 < count) (hx : ring[first]? = some (.string x)) (j : Nat) (hj : Hid (j = (first + 1) % n)) :
    Calls Try.prog 12 #[.pointer (some ⟨b, 0, none⟩)] w fun e w' => e = .returned (.tuple #[.string x, .int .i64 0]) ∧
      QS w' tq te b rb n j (count - 1) (ring.setIfInBounds first (.string ⟨#[]⟩)) ∧ Chg (BothQ b rb) w w' := by
  have hd : ((count : Int) == 0) = false := by simp; omega
  have hn := h.hn
  have hN := h.hN
  have hf := h.hf
  have hc := h.hc
  have hm : j < n := by rw [hj.out]; exact Nat.mod_lt _ (by omega)
  have hne := h.hne
  have hr := h.hr.cellAt hx
  have fr := h.hr.frozen first
  have c0 := h.c0
  have c1 := h.c1
  have c2 := h.c2
  go_enter Try.func12, Try.ntmps12
  go_wp2
  go_quiet (fail)
  go_wp2_with fail
  refine wp_region_quiet_tail 10 (by kernel_rfl) (by kernel_rfl) ?_
  simp only [List.take_succ_cons, List.take_zero, List.drop_succ_cons, List.drop_zero]
  repeat (go_big_quiet_step (fail))
  refine wpQuiet_nil ?_
  intro _ hw'
  obtain ⟨nq2, hw''⟩ := hw'
  subst hw''
  go_wp2_with fail
  have h2 := (h.drewN (nq + nq2)).setRing first (.string ⟨#[]⟩)
  have c02 := h2.c0
  have c12 := h2.c1
  have c22 := h2.c2
  have f12 := h2.hb.frozen 1
  have f22 := h2.hb.frozen 2
  clear c0 c1 c2 hr fr
  obtain ⟨w2, hw2⟩ : ∃ w2, w2 = (w.drewN (nq + nq2)).setCell ⟨rb, first, none⟩ (.string ⟨#[]⟩) := ⟨_, rfl⟩
  rw [← hw2] at h2 c02 c12 c22 f12 f22 ⊢
  have Hw2 := Lib.hid hw2
  clear hw2 h hx
  refine (at_any _ tq te b rb n first count 1 j _ h2 (by omega) hj).mono ?_
  rintro e w3 ⟨rfl, m3, rfl⟩
  go_wp2
  go_ret2
  refine ⟨rfl, ?_, ?_⟩
  · have h4 := ((h2.drewN m3).setFirst j hm).setCount (count - 1) (by omega)
    rw [show ((count - 1 : Nat) : Int) = (count : Int) - 1 by omega] at h4
    exact h4
  · have g1 : Chg (BothQ b rb) w w2 := by
      rw [Hw2.out]
      exact ((Chg.refl _ _).drewN (nq + nq2)).setCell ⟨rb, first, none⟩ (.string ⟨#[]⟩) (fun _ => .inr rfl)
    exact ((g1.drewN m3).setCell ⟨b, 1, none⟩ _ (fun _ => .inl rfl)).setCell ⟨b, 2, none⟩ _ (fun _ => .inl rfl)

/-! What the laws use. -/
theorem put_full (w : World) (tq te : TypeId) (b rb n : Nat) (xs : List Value) (x : ByteArray) (h : QL w tq te b rb n xs) (hl : xs.length = n) :
    Calls Try.prog 9 #[.pointer (some ⟨b, 0, none⟩), .string x] w fun e w' => e = .returned (.int .i64 10) ∧ QL w' tq te b rb n xs ∧ Chg (BothQ b rb) w w' := by
  obtain ⟨first, ring, hq, hx⟩ := h
  refine (put_full0 w tq te b rb n first _ ring x hq hl).mono ?_
  rintro e w' ⟨rfl, m, rfl⟩
  exact ⟨rfl, ⟨first, ring, hq.drewN m, hx⟩, (Chg.refl _ _).drewN m⟩

theorem put_room (w : World) (tq te : TypeId) (b rb n : Nat) (xs : List Value) (x : ByteArray) (h : QL w tq te b rb n xs) (hl : xs.length < n) :
    Calls Try.prog 9 #[.pointer (some ⟨b, 0, none⟩), .string x] w fun e w' => e = .returned (.int .i64 0) ∧ QL w' tq te b rb n (xs ++ [.string x]) ∧ Chg (BothQ b rb) w w' := by
  obtain ⟨first, ring, hq, hx⟩ := h
  refine (put_room0 w tq te b rb n first _ ring x hq hl _ (Lib.hid rfl)).mono ?_
  rintro e w' ⟨rfl, m, rfl⟩
  refine ⟨rfl, ⟨first, ring.setIfInBounds ((first + xs.length) % n) (.string x), ?_, ql_put _ hq.hs hl hx⟩, ?_⟩
  · have := ((hq.drewN m).setRing ((first + xs.length) % n) (.string x)).setCount (xs.length + 1) (by omega)
    simp only [List.length_append, List.length_cons, List.length_nil, Nat.zero_add]
    exact this
  · exact (((Chg.refl _ _).drewN m).setCell ⟨rb, _, none⟩ _ (fun _ => .inr rfl)).setCell ⟨b, 2, none⟩ _ (fun _ => .inl rfl)

theorem take_none (w : World) (tq te : TypeId) (b rb n : Nat) (h : QL w tq te b rb n []) :
    Calls Try.prog 12 #[.pointer (some ⟨b, 0, none⟩)] w fun e w' => e = .returned (.tuple #[.string ⟨#[]⟩, .int .i64 7]) ∧ w = w' := by
  obtain ⟨first, ring, hq, hx⟩ := h
  exact take_none0 w tq te b rb n first ring hq

theorem take_some (w : World) (tq te : TypeId) (b rb n : Nat) (x : ByteArray) (xs : List Value) (h : QL w tq te b rb n (.string x :: xs)) :
    Calls Try.prog 12 #[.pointer (some ⟨b, 0, none⟩)] w fun e w' => e = .returned (.tuple #[.string x, .int .i64 0]) ∧ QL w' tq te b rb n xs ∧ Chg (BothQ b rb) w w' := by
  obtain ⟨first, ring, hq, hx⟩ := h
  have h0 : ring[first]? = some (.string x) := by
    have := hx 0 (by simp)
    rw [Nat.add_zero, Nat.mod_eq_of_lt hq.hf] at this
    simpa using this
  have hl := hq.hc
  simp only [List.length_cons] at hl
  refine (take_some0 w tq te b rb n first _ ring x hq (by simp) h0 _ (Lib.hid rfl)).mono ?_
  rintro e w' ⟨rfl, h1, h2⟩
  exact ⟨rfl, ⟨_, _, by simpa using h1, ql_take (.string ⟨#[]⟩) hq.hf (by omega) hx⟩, h2⟩

theorem len_ql (w : World) (tq te : TypeId) (b rb n : Nat) (xs : List Value) (h : QL w tq te b rb n xs) :
    Calls Try.prog 11 #[.pointer (some ⟨b, 0, none⟩)] w fun e w' => e = .returned (.int .i64 xs.length) ∧ w = w' := by
  obtain ⟨first, ring, hq, hx⟩ := h
  exact len_any w tq te b rb n first _ ring hq

theorem credit_ql (w : World) (tq te : TypeId) (b rb n : Nat) (xs : List Value) (h : QL w tq te b rb n xs) :
    Calls Try.prog 8 #[.pointer (some ⟨b, 0, none⟩)] w fun e w' => e = .returned (.int .i64 ((n : Int) - xs.length)) ∧ ∃ m, w' = w.drewN m := by
  obtain ⟨first, ring, hq, hx⟩ := h
  exact credit_any w tq te b rb n first _ ring hq

theorem infoE : (Try.prog.info? 9).map (fun i => (i.zero, i.size, i.bytes)) = some (some (.string ⟨#[]⟩), 1, 16) := by kernel_rfl

set_option maxHeartbeats 400000 in
theorem new_bad (c : Int) (w : World) (hc : c < 1 ∨ 64 < c) :
    Calls Try.prog 7 #[.int .i64 c] w fun e w' => e = .returned (.tuple #[.pointer none, .int .i64 1]) ∧ w = w' := by
  rcases hc with hc | hc
  · go_enter Try.func7, Try.ntmps7
    go_wp2
    go_ret2
    exact ⟨rfl, rfl⟩
  · have hc1 : 1 ≤ c := by omega
    go_enter Try.func7, Try.ntmps7
    go_wp2
    go_ret2
    exact ⟨rfl, rfl⟩

set_option maxHeartbeats 400000 in
theorem new_ok (n : Nat) (w : World) (h1 : 1 ≤ n) (h2 : n ≤ 64) :
    Calls Try.prog 7 #[.int .i64 n] w fun e w' => ∃ b rb, e = .returned (.tuple #[.pointer (some ⟨b, 0, none⟩), .int .i64 0]) ∧
      QL w' 58 9 b rb n [] ∧ w.heap.size ≤ b ∧ w.heap.size ≤ rb ∧ Chg (fun _ => False) w w' := by
  obtain ⟨i0, hi, hz0, hz1, hz2⟩ := info_parts infoE
  have hpost : ∀ w1 : World, w1.ownsRow w.heap.size 9 1 (.slice (some ⟨w.heap.size, 0, none⟩) n n) n (madeCells (Value.cells (.string ⟨#[]⟩)) (n * 1)).toList → w.grownBy w1 none →
      QL (w1.alloc (.cells #[.slice (some ⟨w.heap.size, 0, none⟩) n n, .int .i64 0, .int .i64 0] 58)) 58 9 w1.heap.size w.heap.size n [] := by
    intro w1 hown hg
    obtain ⟨cs, hb, hle, hcm, hcs, _, _⟩ := Blk.of_owns hown
    have := hb.lt
    exact ⟨0, cs, ⟨h1, h2, h1, Nat.zero_le _, by omega, Blk.new _ _ _, hb.alloc _, by omega⟩, fun i hi => by simp at hi⟩
  go_enter Try.func7, Try.ntmps7
  go_wp2_with (at_make; refine wpList_make_full _ rfl _ _ 56 rfl w.heap.size 9 i0 (.string ⟨#[]⟩) 1 Try.underlying56 hi hz0 hz1 .i64 .i64 _ _ n rfl rfl rfl rfl (by rw [hz2]; omega) (by unfold maxLen; omega) (Nat.le_refl _) ?_; intro w1 hown hgrow)
  go_ret2
  exact ⟨_, _, rfl, hpost w1 hown hgrow, hgrow.size, Nat.le_refl _, ((Chg.of_grown hgrow).mono (by simp)).alloc _⟩
end Qstring

namespace Qint
set_option maxHeartbeats 400000 in
theorem at_any (w : World) (tq te : TypeId) (b rb n first count i j : Nat) (ring : Array Value) (h : QS w tq te b rb n first count ring) (hi : i ≤ 64) (hj : Hid (j = (first + i) % n)) :
    Calls Try.prog 23 #[.pointer (some ⟨b, 0, none⟩), .int .i64 i] w fun e w' => e = .returned (.int .i64 j) ∧ ∃ m, w' = w.drewN m := by
  have hn := h.hn
  have hN := h.hN
  have hf := h.hf
  have c0 := h.c0
  have c1 := h.c1
  clear h
  go_enter Try.func23, Try.ntmps23
  go_wp2
  go_quiet (fail)
  go_wp2
  go_ret
  exact ⟨by rw [hj.out]; simp, _, rfl⟩

set_option maxHeartbeats 400000 in
theorem len_any (w : World) (tq te : TypeId) (b rb n first count : Nat) (ring : Array Value) (h : QS w tq te b rb n first count ring) :
    Calls Try.prog 18 #[.pointer (some ⟨b, 0, none⟩)] w fun e w' => e = .returned (.int .i64 count) ∧ w = w' := by
  have c2 := h.c2
  clear h
  go_enter Try.func18, Try.ntmps18
  go_wp2
  go_ret
  exact ⟨rfl, rfl⟩

set_option maxHeartbeats 400000 in
theorem len_nil (w : World) :
    Calls Try.prog 18 #[.pointer none] w fun e w' => e = .returned (.int .i64 0) ∧ w = w' := by
  go_enter Try.func18, Try.ntmps18
  go_wp2
  go_ret
  exact ⟨rfl, rfl⟩

set_option maxHeartbeats 400000 in
theorem credit_any (w : World) (tq te : TypeId) (b rb n first count : Nat) (ring : Array Value) (h : QS w tq te b rb n first count ring) :
    Calls Try.prog 19 #[.pointer (some ⟨b, 0, none⟩)] w fun e w' => e = .returned (.int .i64 ((n : Int) - count)) ∧ ∃ m, w' = w.drewN m := by
  have hN := h.hN
  have hc := h.hc
  have c0 := h.c0
  have c2 := h.c2
  clear h
  go_enter Try.func19, Try.ntmps19
  go_wp2
  go_quiet (fail)
  go_wp2
  go_ret
  exact ⟨rfl, _, rfl⟩

set_option maxHeartbeats 400000 in
theorem credit_nil (w : World) :
    Calls Try.prog 19 #[.pointer none] w fun e w' => e = .returned (.int .i64 0) ∧ w = w' := by
  go_enter Try.func19, Try.ntmps19
  go_wp2
  go_ret
  exact ⟨rfl, rfl⟩

set_option maxHeartbeats 400000 in
theorem put_nil (w : World) (x : Int) :
    Calls Try.prog 16 #[.pointer none, .int .i64 x] w fun e w' => e = .returned (.int .i64 9) ∧ w = w' := by
  go_enter Try.func16, Try.ntmps16
  go_wp2
  go_ret
  exact ⟨rfl, rfl⟩

set_option maxHeartbeats 400000 in
theorem put_full0 (w : World) (tq te : TypeId) (b rb n first count : Nat) (ring : Array Value) (x : Int) (h : QS w tq te b rb n first count ring) (hc' : count = n) :
    Calls Try.prog 16 #[.pointer (some ⟨b, 0, none⟩), .int .i64 x] w fun e w' => e = .returned (.int .i64 10) ∧ ∃ m, w' = w.drewN m := by
  have hN := h.hN
  have c0 := h.c0
  have c2 := h.c2
  clear h
  subst hc'
  go_enter Try.func16, Try.ntmps16
  go_wp2
  go_quiet (fail)
  go_wp2
  go_ret
  exact ⟨rfl, _, rfl⟩

set_option maxHeartbeats 400000 in
theorem put_room0 (w : World) (tq te : TypeId) (b rb n first count : Nat) (ring : Array Value) (x : Int) (h : QS w tq te b rb n first count ring) (hc' : count < n) (j : Nat) (hj : Hid (j = (first + count) % n)) :
    Calls Try.prog 16 #[.pointer (some ⟨b, 0, none⟩), .int .i64 x] w fun e w' => e = .returned (.int .i64 0) ∧ ∃ m, w' = ((w.drewN m).setCell ⟨rb, j, none⟩ (.int .i64 x)).setCell ⟨b, 2, none⟩ (.int .i64 (count + 1)) := by
  have hd : ((count : Int) == (n : Int)) = false := by simp; omega
  have hn := h.hn
  have hN := h.hN
  have hm : j < n := by rw [hj.out]; exact Nat.mod_lt _ (by omega)
  have hne := h.hne
  have c0 := h.c0
  have c2 := h.c2
  go_enter Try.func16, Try.ntmps16
  go_wp2
  go_quiet (fail)
  go_wp2_with fail
  have h1 := h.drewN nq
  obtain ⟨w1, hw1⟩ : ∃ w1, w1 = w.drewN nq := ⟨_, rfl⟩
  rw [← hw1] at h1 ⊢
  have Hw1 := Lib.hid hw1
  clear hw1 c0 c2 h
  have c0 := h1.c0
  have c2 := h1.c2
  have f2 := h1.hb.frozen 2
  have cr := h1.hr.cellAt (show ring[j]? = some (ring[j]'(by rw [h1.hs]; exact hm)) from Array.getElem?_eq_getElem _)
  have fr := h1.hr.frozen j
  refine wp_region_quiet_tail 12 (by kernel_rfl) (by kernel_rfl) ?_
  simp only [List.take_succ_cons, List.take_zero, List.drop_succ_cons, List.drop_zero]
  repeat (go_big_quiet_step ((go_at_call 23; refine Calls.quiet_of (at_any _ tq te b rb n first count count j ring (h1.drewN _) (by omega) hj))))
  refine wpQuiet_nil ?_
  intro _ hw'
  obtain ⟨nq2, hw''⟩ := hw'
  subst hw''
  go_wp2
  go_ret
  exact ⟨rfl, nq + nq2, by rw [Hw1.out]; simp⟩

set_option maxHeartbeats 400000 in
theorem take_nil (w : World) :
    Calls Try.prog 14 #[.pointer none] w fun e w' => e = .returned (.tuple #[.int .i64 0, .int .i64 9]) ∧ w = w' := by
  go_enter Try.func14, Try.ntmps14
  go_wp2
  go_ret2
  exact ⟨rfl, rfl⟩

set_option maxHeartbeats 400000 in
theorem take_none0 (w : World) (tq te : TypeId) (b rb n first : Nat) (ring : Array Value) (h : QS w tq te b rb n first 0 ring) :
    Calls Try.prog 14 #[.pointer (some ⟨b, 0, none⟩)] w fun e w' => e = .returned (.tuple #[.int .i64 0, .int .i64 7]) ∧ w = w' := by
  have c2 : w.cell? ⟨b, 2, none⟩ = some (.int .i64 0) := h.c2
  clear h
  go_enter Try.func14, Try.ntmps14
  go_wp2
  go_ret2
  exact ⟨rfl, rfl⟩

set_option maxHeartbeats 1000000 in
theorem take_some0 (w : World) (tq te : TypeId) (b rb n first count : Nat) (ring : Array Value) (x : Int) (h : QS w tq te b rb n first count ring) (hc' : 0 < count) (hx : ring[first]? = some (.int .i64 x)) (j : Nat) (hj : Hid (j = (first + 1) % n)) :
    Calls Try.prog 14 #[.pointer (some ⟨b, 0, none⟩)] w fun e w' => e = .returned (.tuple #[.int .i64 x, .int .i64 0]) ∧
      QS w' tq te b rb n j (count - 1) (ring.setIfInBounds first (.int .i64 0)) ∧ Chg (BothQ b rb) w w' := by
  have hd : ((count : Int) == 0) = false := by simp; omega
  have hn := h.hn
  have hN := h.hN
  have hf := h.hf
  have hc := h.hc
  have hm : j < n := by rw [hj.out]; exact Nat.mod_lt _ (by omega)
  have hne := h.hne
  have hr := h.hr.cellAt hx
  have fr := h.hr.frozen first
  have c0 := h.c0
  have c1 := h.c1
  have c2 := h.c2
  go_enter Try.func14, Try.ntmps14
  go_wp2
  go_quiet (fail)
  go_wp2_with fail
  refine wp_region_quiet_tail 10 (by kernel_rfl) (by kernel_rfl) ?_
  simp only [List.take_succ_cons, List.take_zero, List.drop_succ_cons, List.drop_zero]
  repeat (go_big_quiet_step (fail))
  refine wpQuiet_nil ?_
  intro _ hw'
  obtain ⟨nq2, hw''⟩ := hw'
  subst hw''
  go_wp2_with fail
  have h2 := (h.drewN (nq + nq2)).setRing first (.int .i64 0)
  have c02 := h2.c0
  have c12 := h2.c1
  have c22 := h2.c2
  have f12 := h2.hb.frozen 1
  have f22 := h2.hb.frozen 2
  clear c0 c1 c2 hr fr
  obtain ⟨w2, hw2⟩ : ∃ w2, w2 = (w.drewN (nq + nq2)).setCell ⟨rb, first, none⟩ (.int .i64 0) := ⟨_, rfl⟩
  rw [← hw2] at h2 c02 c12 c22 f12 f22 ⊢
  have Hw2 := Lib.hid hw2
  clear hw2 h hx
  refine (at_any _ tq te b rb n first count 1 j _ h2 (by omega) hj).mono ?_
  rintro e w3 ⟨rfl, m3, rfl⟩
  go_wp2
  go_ret2
  refine ⟨rfl, ?_, ?_⟩
  · have h4 := ((h2.drewN m3).setFirst j hm).setCount (count - 1) (by omega)
    rw [show ((count - 1 : Nat) : Int) = (count : Int) - 1 by omega] at h4
    exact h4
  · have g1 : Chg (BothQ b rb) w w2 := by
      rw [Hw2.out]
      exact ((Chg.refl _ _).drewN (nq + nq2)).setCell ⟨rb, first, none⟩ (.int .i64 0) (fun _ => .inr rfl)
    exact ((g1.drewN m3).setCell ⟨b, 1, none⟩ _ (fun _ => .inl rfl)).setCell ⟨b, 2, none⟩ _ (fun _ => .inl rfl)

/-! What the laws use. -/
theorem put_full (w : World) (tq te : TypeId) (b rb n : Nat) (xs : List Value) (x : Int) (h : QL w tq te b rb n xs) (hl : xs.length = n) :
    Calls Try.prog 16 #[.pointer (some ⟨b, 0, none⟩), .int .i64 x] w fun e w' => e = .returned (.int .i64 10) ∧ QL w' tq te b rb n xs ∧ Chg (BothQ b rb) w w' := by
  obtain ⟨first, ring, hq, hx⟩ := h
  refine (put_full0 w tq te b rb n first _ ring x hq hl).mono ?_
  rintro e w' ⟨rfl, m, rfl⟩
  exact ⟨rfl, ⟨first, ring, hq.drewN m, hx⟩, (Chg.refl _ _).drewN m⟩

theorem put_room (w : World) (tq te : TypeId) (b rb n : Nat) (xs : List Value) (x : Int) (h : QL w tq te b rb n xs) (hl : xs.length < n) :
    Calls Try.prog 16 #[.pointer (some ⟨b, 0, none⟩), .int .i64 x] w fun e w' => e = .returned (.int .i64 0) ∧ QL w' tq te b rb n (xs ++ [.int .i64 x]) ∧ Chg (BothQ b rb) w w' := by
  obtain ⟨first, ring, hq, hx⟩ := h
  refine (put_room0 w tq te b rb n first _ ring x hq hl _ (Lib.hid rfl)).mono ?_
  rintro e w' ⟨rfl, m, rfl⟩
  refine ⟨rfl, ⟨first, ring.setIfInBounds ((first + xs.length) % n) (.int .i64 x), ?_, ql_put _ hq.hs hl hx⟩, ?_⟩
  · have := ((hq.drewN m).setRing ((first + xs.length) % n) (.int .i64 x)).setCount (xs.length + 1) (by omega)
    simp only [List.length_append, List.length_cons, List.length_nil, Nat.zero_add]
    exact this
  · exact (((Chg.refl _ _).drewN m).setCell ⟨rb, _, none⟩ _ (fun _ => .inr rfl)).setCell ⟨b, 2, none⟩ _ (fun _ => .inl rfl)

theorem take_none (w : World) (tq te : TypeId) (b rb n : Nat) (h : QL w tq te b rb n []) :
    Calls Try.prog 14 #[.pointer (some ⟨b, 0, none⟩)] w fun e w' => e = .returned (.tuple #[.int .i64 0, .int .i64 7]) ∧ w = w' := by
  obtain ⟨first, ring, hq, hx⟩ := h
  exact take_none0 w tq te b rb n first ring hq

theorem take_some (w : World) (tq te : TypeId) (b rb n : Nat) (x : Int) (xs : List Value) (h : QL w tq te b rb n (.int .i64 x :: xs)) :
    Calls Try.prog 14 #[.pointer (some ⟨b, 0, none⟩)] w fun e w' => e = .returned (.tuple #[.int .i64 x, .int .i64 0]) ∧ QL w' tq te b rb n xs ∧ Chg (BothQ b rb) w w' := by
  obtain ⟨first, ring, hq, hx⟩ := h
  have h0 : ring[first]? = some (.int .i64 x) := by
    have := hx 0 (by simp)
    rw [Nat.add_zero, Nat.mod_eq_of_lt hq.hf] at this
    simpa using this
  have hl := hq.hc
  simp only [List.length_cons] at hl
  refine (take_some0 w tq te b rb n first _ ring x hq (by simp) h0 _ (Lib.hid rfl)).mono ?_
  rintro e w' ⟨rfl, h1, h2⟩
  exact ⟨rfl, ⟨_, _, by simpa using h1, ql_take (.int .i64 0) hq.hf (by omega) hx⟩, h2⟩

theorem len_ql (w : World) (tq te : TypeId) (b rb n : Nat) (xs : List Value) (h : QL w tq te b rb n xs) :
    Calls Try.prog 18 #[.pointer (some ⟨b, 0, none⟩)] w fun e w' => e = .returned (.int .i64 xs.length) ∧ w = w' := by
  obtain ⟨first, ring, hq, hx⟩ := h
  exact len_any w tq te b rb n first _ ring hq

theorem credit_ql (w : World) (tq te : TypeId) (b rb n : Nat) (xs : List Value) (h : QL w tq te b rb n xs) :
    Calls Try.prog 19 #[.pointer (some ⟨b, 0, none⟩)] w fun e w' => e = .returned (.int .i64 ((n : Int) - xs.length)) ∧ ∃ m, w' = w.drewN m := by
  obtain ⟨first, ring, hq, hx⟩ := h
  exact credit_any w tq te b rb n first _ ring hq

theorem infoE : (Try.prog.info? 3).map (fun i => (i.zero, i.size, i.bytes)) = some (some (.int .i64 0), 1, 8) := by kernel_rfl

set_option maxHeartbeats 400000 in
theorem new_bad (c : Int) (w : World) (hc : c < 1 ∨ 64 < c) :
    Calls Try.prog 13 #[.int .i64 c] w fun e w' => e = .returned (.tuple #[.pointer none, .int .i64 1]) ∧ w = w' := by
  rcases hc with hc | hc
  · go_enter Try.func13, Try.ntmps13
    go_wp2
    go_ret2
    exact ⟨rfl, rfl⟩
  · have hc1 : 1 ≤ c := by omega
    go_enter Try.func13, Try.ntmps13
    go_wp2
    go_ret2
    exact ⟨rfl, rfl⟩

set_option maxHeartbeats 400000 in
theorem new_ok (n : Nat) (w : World) (h1 : 1 ≤ n) (h2 : n ≤ 64) :
    Calls Try.prog 13 #[.int .i64 n] w fun e w' => ∃ b rb, e = .returned (.tuple #[.pointer (some ⟨b, 0, none⟩), .int .i64 0]) ∧
      QL w' 61 3 b rb n [] ∧ w.heap.size ≤ b ∧ w.heap.size ≤ rb ∧ Chg (fun _ => False) w w' := by
  obtain ⟨i0, hi, hz0, hz1, hz2⟩ := info_parts infoE
  have hpost : ∀ w1 : World, w1.ownsRow w.heap.size 3 1 (.slice (some ⟨w.heap.size, 0, none⟩) n n) n (madeCells (Value.cells (.int .i64 0)) (n * 1)).toList → w.grownBy w1 none →
      QL (w1.alloc (.cells #[.slice (some ⟨w.heap.size, 0, none⟩) n n, .int .i64 0, .int .i64 0] 61)) 61 3 w1.heap.size w.heap.size n [] := by
    intro w1 hown hg
    obtain ⟨cs, hb, hle, hcm, hcs, _, _⟩ := Blk.of_owns hown
    have := hb.lt
    exact ⟨0, cs, ⟨h1, h2, h1, Nat.zero_le _, by omega, Blk.new _ _ _, hb.alloc _, by omega⟩, fun i hi => by simp at hi⟩
  go_enter Try.func13, Try.ntmps13
  go_wp2_with (at_make; refine wpList_make_full _ rfl _ _ 34 rfl w.heap.size 3 i0 (.int .i64 0) 1 Try.underlying34 hi hz0 hz1 .i64 .i64 _ _ n rfl rfl rfl rfl (by rw [hz2]; omega) (by unfold maxLen; omega) (Nat.le_refl _) ?_; intro w1 hown hgrow)
  go_ret2
  exact ⟨_, _, rfl, hpost w1 hown hgrow, hgrow.size, Nat.le_refl _, ((Chg.of_grown hgrow).mono (by simp)).alloc _⟩
end Qint
end Go.Proofs.Ytoiaijfmppbodaa
