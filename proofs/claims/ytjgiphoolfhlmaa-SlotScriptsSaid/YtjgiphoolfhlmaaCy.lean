/- Slot: the document's Held and Value. -/
import Derived.Test.YtjgiphoolfhlmaaCv
import Derived.Test.YtjgiphoolfhlmaaRows
import Derived.Test.YtjgiphoolfhlmaaL1
namespace Go.Proofs.Ytjgiphoolfhlmaa
open Go.RowKit
attribute [local go_sem] Oper.semAt_some
set_option linter.unusedVariables false
set_option linter.unusedSimpArgs false

set_option maxRecDepth 100000 in
set_option maxHeartbeats 4000000 in
theorem rheld_any {ao : Option Addr} {cap : Nat} {bs : List UInt8} {n : Nat} {v : ByteArray} (w2 : World) (hs2 : SlA w2.heap.size 1 EU w2 ao cap bs) (hh : HeldIs bs n v) :
    Calls Try.prog 31 #[.slice ao bs.length cap] w2 fun e w' => e = .returned (.tuple #[.string v, .int .i64 n]) ∧ Below w2.heap.size w2 w' := by
  obtain ⟨w, hw⟩ : ∃ w, w = w2 := ⟨_, rfl⟩
  have hb2 : Below w2.heap.size w2 w2 := Below.refl _ _
  clear hw w
  rcases hh with ⟨rfl, rfl, rfl⟩ | ⟨hn1, hn2, hv, tail, rfl⟩
  · have hnx := rnext_nil w2 ao cap
    change Calls Try.prog 48 #[.slice ao ([] : List UInt8).length cap, .int .i64 0] w2 _ at hnx
    clear hs2
    go_enter Try.func31, Try.ntmps31
    go_wp2_with fail
    refine hnx.mono ?_
    rintro e w3 ⟨rfl, rfl⟩
    clear hnx
    dsimp only
    go_wp2_with fail
    go_ret2
    exact ⟨rfl, hb2⟩
  · have hpl := payC_len (n := n) hv
    have hpo := payC_nat (n := n) hn2 hv
    have hlt := payN_lt (n := n) hn2 hv
    have hde := dec_itms (n := n) hn2 hv
    have hne : 0 < (frameC (payC n v) ++ tail).length := by rw [List.length_append, frameC_len]; omega
    obtain ⟨b1, o1, rfl, hb1', _⟩ := hs2.addr hne
    have hnx := rnext_any b1 o1 cap (payC n v) tail w2 hs2 (by omega)
    have hdc := fun (a3 : Option Addr) (c3 : Nat) (w3 : World) (h3 : SlA w3.heap.size 1 EU w3 a3 c3 (payC n v)) => refDecode_any (payN n v) hlt a3 c3 w3 (by have := slaU_B h3; rw [hpo] at this; exact this)
    rw [hde] at hdc
    have hpn : (payN n v).length = (payC n v).length := by rw [← hpo, List.length_map]
    rw [hpn] at hdc
    generalize payC n v = pc at hnx hdc hs2 hpl ⊢
    generalize frameC pc ++ tail = fc at hnx hs2 hne ⊢
    obtain ⟨m, hm⟩ : ∃ m, m = fc.length := ⟨_, rfl⟩
    rw [← hm] at hnx ⊢
    obtain ⟨k, hk⟩ : ∃ k, k = pc.length := ⟨_, rfl⟩
    rw [← hk] at hnx hdc
    clear hpo hlt hde hpn hs2 hne hm
    replace hdc := Lib.hid hdc
    replace hk := Lib.hid hk
    go_enter Try.func31, Try.ntmps31
    go_wp2_with fail
    refine hnx.mono ?_
    rintro e w3 ⟨v3, rfl, hO3, hb3d⟩
    have hb3 : Below w2.heap.size w2 w3 := hb2.trans (hb3d.mono hb2.size)
    obtain ⟨a3, c3, rfl, hs3⟩ := rdsOwn hO3
    have hdc3 := hdc.out a3 c3 w3 hs3
    rw [← hk.out]
    clear hnx hdc hO3 hs3 hb3d
    dsimp only
    go_wp2_with fail
    refine hdc3.mono ?_
    rintro e w4 ⟨hb4d, a4, c4, rfl, hi4⟩
    have hb4 : Below w2.heap.size w2 w4 := hb3.trans (hb4d.mono hb3.size)
    have hr4 := hi4.rits (B := w4.heap.size) (fun b h => h.2)
    obtain ⟨b5, e5, _, _⟩ := hi4.1.2.2.2 (by unfold itmsC; exact List.cons_ne_nil _ _)
    obtain rfl := e5
    obtain ⟨_, _, _, -, i00, i01, -, -, -, -, -, -⟩ := hr4.at (i := 0) (by unfold itmsC; simp) (by unfold itmsC; rfl)
    obtain ⟨_, _, _, -, i10, -, i12, -, -, -, -, -⟩ := hr4.at (i := 1) (by unfold itmsC; simp) (by unfold itmsC; rfl)
    have hl2 : (itmsC n v).length = 2 := rfl
    dsimp only
    rw [hl2]
    clear hdc3 hr4 hi4 hb4d
    have d1 : decide ((n : Int) < 1) = false := by simp; omega
    replace i00 : w4.cell? ⟨b5, 0, none⟩ = some (.int .i64 0) := i00
    replace i01 : w4.cell? ⟨b5, 1, none⟩ = some (.int .i64 n) := i01
    replace i10 : w4.cell? ⟨b5, 4, none⟩ = some (.int .i64 1) := i10
    replace i12 : w4.cell? ⟨b5, 6, none⟩ = some (.string v) := i12
    clear hl2
    have hbe : Below w2.heap.size w2 w4.drew := hb4.drew
    go_upto_region 7 with fail
    go_region_with (fail)
    all_goals (go_wp2_with fail; go_ret2)
    all_goals exact ⟨rfl, hbe⟩
end Go.Proofs.Ytjgiphoolfhlmaa

/- Slot: the document's Value; the script's steps. -/
namespace Go.Proofs.Ytjgiphoolfhlmaa
open Go.RowKit
attribute [local go_sem] Oper.semAt_some
set_option linter.unusedVariables false
set_option linter.unusedSimpArgs false

set_option maxRecDepth 100000 in
set_option maxHeartbeats 1000000 in
theorem rvalue_any {v1 v2 : Value} {b1 b2 : List UInt8} {n1 n2 : Nat} {s1 s2 : ByteArray} (w : World) (h1 : Rds w v1 b1) (h2 : Rds w v2 b2) (k1 : HeldIs b1 n1 s1) (k2 : HeldIs b2 n2 s2) (sv : ByteArray) (sn : Nat)
    (hv : n1 < n2 → sv = s2 ∧ sn = n2) (hv2 : ¬ n1 < n2 → sv = s1 ∧ sn = n1) :
    Calls Try.prog 15 #[v1, v2] w fun e w' => (∃ k : Int, e = .returned (.tuple #[.string sv, .int .i64 sn, .int .i64 k])) ∧ Below w.heap.size w w' := by
  have hz : n1 = 0 → s1 = ⟨#[]⟩ := fun h => by
    rcases k1 with ⟨_, _, h3⟩ | ⟨h3, _⟩
    · exact h3
    · omega
  have hh2 := fun (wy : World) (hy : Below w.heap.size w wy) => (show Calls Try.prog 31 #[v2] wy fun e w' => e = .returned (.tuple #[.string s2, .int .i64 n2]) ∧ Below wy.heap.size wy w' from by
    obtain ⟨ao, cap, rfl, hs⟩ := h2.below hy
    exact rheld_any wy hs k2)
  obtain ⟨ao, cap, rfl, hs⟩ := h1
  have hh1 := rheld_any w hs k1
  generalize b1.length = l1 at hh1 ⊢
  clear hs k1 k2 h2
  replace hz := Lib.hid hz
  replace hv := Lib.hid hv
  replace hv2 := Lib.hid hv2
  go_enter Try.func15, Try.ntmps15
  go_wp2_with fail
  refine hh1.mono ?_
  rintro e w1 ⟨rfl, hb1⟩
  dsimp only
  go_wp2_with fail
  refine (hh2 w1 hb1).mono ?_
  rintro e w2 ⟨rfl, hb2d⟩
  have hb2 := hb1.trans (hb2d.mono hb1.size)
  clear hh1 hh2
  dsimp only
  by_cases hlt : n1 < n2
  · obtain ⟨rfl, rfl⟩ := hv.out hlt
    have q2 : ((sn : Int) == 0) = false := by simp; omega
    have q3 : decide ((n1 : Int) < (sn : Int)) = true := by simp; omega
    by_cases h0 : n1 = 0
    · subst h0
      go_wp2_with fail
      go_ret3
      exact ⟨⟨_, rfl⟩, hb2⟩
    · have q1 : ((n1 : Int) == 0) = false := by simp; omega
      go_wp2_with fail
      go_ret3
      exact ⟨⟨_, rfl⟩, hb2⟩
  · obtain ⟨rfl, rfl⟩ := hv2.out hlt
    by_cases h0 : sn = 0
    · obtain rfl := hz.out h0
      subst h0
      obtain rfl : n2 = 0 := by omega
      go_wp2_with fail
      go_ret3
      exact ⟨⟨_, rfl⟩, hb2⟩
    · have q1 : ((sn : Int) == 0) = false := by simp; omega
      have q3 : decide ((sn : Int) < (n2 : Int)) = false := by simp; omega
      go_wp2_with fail
      go_ret3
      exact ⟨⟨_, rfl⟩, hb2⟩

theorem SInv.value {nm : ByteArray} {s : SL} {r : Int} {L : Files} {H : Nat → Nat × ByteArray} (h : SInv nm s r L H) : ((H 0).1 < (H 1).1 → s.v = (H 1).2 ∧ s.n = (H 1).1) ∧ (¬ (H 0).1 < (H 1).1 → s.v = (H 0).2 ∧ s.n = (H 0).1) := by
  have ho := h.opn
  have hz : (H 0).1 = 0 → (H 0).2 = ⟨#[]⟩ := fun h0 => by
    rcases h.held 0 (by omega) with ⟨_, _, h3⟩ | ⟨h3, _⟩
    · exact h3
    · omega
  rw [opS_two] at ho
  rw [← ho]
  constructor
  · intro hlt
    rw [if_neg]
    · exact ⟨rfl, rfl⟩
    · split
      · show ¬ _ ≤ 0; omega
      · show ¬ (H 1).1 ≤ (H 0).1; omega
  · intro hlt
    by_cases h0 : (H 0).1 ≤ 0
    · rw [if_pos h0, if_pos (by show (H 1).1 ≤ 0; omega)]
      exact ⟨(hz (by omega)).symm, by show 0 = _; omega⟩
    · rw [if_neg h0, if_pos (by show (H 1).1 ≤ (H 0).1; omega)]
      exact ⟨rfl, rfl⟩
end Go.Proofs.Ytjgiphoolfhlmaa

/- Slot: the steps of a script. -/
namespace Go.Proofs.Ytjgiphoolfhlmaa
open Go.RowKit
attribute [local go_sem] Oper.semAt_some
set_option linter.unusedVariables false
set_option linter.unusedSimpArgs false

/-- What another block keeps: it is no block of the disk, nor the slot's. -/
def Apart (x : DX) (db sb pb : Nat) : Prop := ¬ DS x db pb ∧ pb ≠ sb
/-- A slot with its disk, behind a call that left what lies apart. -/
def TStep (w0 w : World) (db : Nat) (x : DX) (sb : Nat) (T : SL) (w' : World) : Prop :=
  ∃ x', Slt w' w0.heap.size db x' sb nN T ∧ Below w0.heap.size w0 w' ∧ ∀ pb, pb < w.heap.size → Apart x db sb pb → Apart x' db sb pb ∧ w'.heap[pb]? = w.heap[pb]?
theorem TStep.of {w0 w w' : World} {db sb : Nat} {x x' : DX} {T : SL} (h : Slt w' w0.heap.size db x' sb nN T) (hb : Below w0.heap.size w0 w') (hc : Chg (fun k => DS x db k ∨ k = sb) w w') (hx : ∀ k, DS x' db k → DS x db k ∨ w.heap.size ≤ k) : TStep w0 w db x sb T w' :=
  ⟨x', h, hb, fun pb hp ha => ⟨⟨fun hd => (hx pb hd).elim ha.1 (fun h => by omega), ha.2⟩, hc.block pb hp (fun h => h.elim ha.1 ha.2)⟩⟩
section
variable {w0 w : World} {db sb : Nat} {x : DX} {T : SL}
theorem t_fail (on : Bool) (h : Slt w w0.heap.size db x sb nN T) (hb : Below w0.heap.size w0 w) :
    Calls Try.prog 12 #[.pointer (some ⟨db, 0, none⟩), .bool on] w fun e w' => (∃ v, e = .returned v) ∧ TStep w0 w db x sb { T with M := failM T.M on } w' := by
  refine (fail_any on w h.dsk).mono ?_
  rintro e w' ⟨he, hD, hc⟩
  obtain ⟨x', h1, h2, h3⟩ := h.step ⟨x, hD, hc, fun k hk => .inl hk, NewF.refl w x⟩
  exact ⟨he, TStep.of h1 (hb.trans (hc.below hb.size (fun k h1 h2 => by have := h.dsk.base_le k h2; omega))) (hc.mono (fun k _ h => .inl h)) h3⟩
theorem t_limit (r : Int) (h : Slt w w0.heap.size db x sb nN T) (hb : Below w0.heap.size w0 w) (h0 : 0 ≤ r) (h1 : r ≤ 1073741824) :
    Calls Try.prog 13 #[.pointer (some ⟨db, 0, none⟩), .int .i64 r] w fun e w' => (∃ v, e = .returned v) ∧ TStep w0 w db x sb { T with M := { T.M with room := r } } w' := by
  have hl : limitM T.M r = (0, { T.M with room := r }) := by unfold limitM; rw [if_neg (by omega)]
  refine (limit_any r w h.dsk).mono ?_
  rintro e w' ⟨he, hD, hc⟩
  rw [hl] at hD
  obtain ⟨x', h1, h2, h3⟩ := h.step ⟨x, hD, hc, fun k hk => .inl hk, NewF.refl w x⟩
  exact ⟨⟨_, he⟩, TStep.of h1 (hb.trans (hc.below hb.size (fun k h1 h2 => by have := h.dsk.base_le k h2; omega))) (hc.mono (fun k _ h => .inl h)) h3⟩
theorem t_put {N e0 : Nat} {T' : SL} (val : ByteArray) (h : Slt w w0.heap.size db x sb nN T) (hb : Below w0.heap.size w0 w) (hm : putM nN T val = (e0, T')) (hok : OkM N T.M) (hN : N + 1 ≤ 1000000) (hval : val.size ≤ maxLen) (hn0 : T.n ≤ 9223372036854775807) :
    Calls Try.prog 10 #[.pointer (some ⟨sb, 0, none⟩), .string val] w fun e w' => e = .returned (.int .i64 e0) ∧ TStep w0 w db x sb T' w' := by
  refine (put_go2 val w hm h (by decide) hok hN hb.size hval hn0).mono ?_
  rintro e w' ⟨he, x', h1, h2, h3, h4⟩
  exact ⟨he, TStep.of h1 (hb.trans h2) h3 h4⟩
end

/-- What is known of the slot at a step. -/
structure TInv (i : Nat) (s : SL) (r : Int) (L : Files) (H : Nat → Nat × ByteArray) : Prop where
  inv : SInv nN s r L H
  r0 : 0 ≤ r
  r1 : r ≤ 1073741824
  ok : OkM (2 * i) s.M
  n : s.n ≤ i
theorem TInv.next {i : Nat} {s : SL} {r : Int} {L : Files} {H : Nat → Nat × ByteArray} (h : TInv i s r L H) : TInv (i + 1) s r L H := ⟨h.inv, h.r0, h.r1, h.ok.mono (by omega), by have := h.n; omega⟩
theorem OkM.fail {N : Nat} {M : DM} (h : OkM N M) (on : Bool) : OkM N (failM M on) := ⟨h.room, h.now, h.safe, h.nown, h.safen, h.chn, h.ln, h.lsc⟩
theorem OkM.lim {N : Nat} {M : DM} (h : OkM N M) {r : Int} (h0 : 0 ≤ r) (h1 : r ≤ 1073741824) : OkM N { M with room := r } := ⟨⟨h0, h1⟩, h.now, h.safe, h.nown, h.safen, h.chn, h.ln, h.lsc⟩
theorem TInv.lim {i : Nat} {s : SL} {r r' : Int} {L : Files} {H : Nat → Nat × ByteArray} (h : TInv i s r L H) (h0 : 0 ≤ r') (h1 : r' ≤ 1073741824) : TInv i { s with M := { s.M with room := r' } } r' L H := by
  refine ⟨⟨?_, h.inv.held, ?_⟩, h0, h1, h.ok.lim h0 h1, h.n⟩
  · show { s.M with room := r' } = _
    rw [h.inv.M]
    rfl
  · have ho := h.inv.opn
    show opS { s.M with room := r' } H 2 = _
    rw [opS_two] at ho ⊢
    rw [← ho]
    split <;> split <;> simp_all
theorem fail_back {s : SL} {r : Int} {L : Files} (h : s.M = stdM r L) (on : Bool) : failM (failM s.M on) false = s.M := by rw [h]; rfl
theorem fail_off {s : SL} {r : Int} {L : Files} (h : s.M = stdM r L) : failM s.M false = s.M := by rw [h]; rfl
/-- What a Put answers in a script. -/
theorem t_puts {i : Nat} {s : SL} {r : Int} {L : Files} {H : Nat → Nat × ByteArray} (h : TInv i s r L H) (hi : i < 100) (torn on : Bool) {val : ByteArray} (hv : val.size ≤ 60000) :
    (torn = true → putM nN { s with M := failM s.M on, br := torn } val = (9, { s with M := failM s.M on, br := true })) ∧
    (torn = false → on = true → putM nN { s with M := failM s.M on, br := torn } val = (16, { s with M := failM s.M on, br := true })) ∧
    (torn = false → on = false → putM nN { s with M := failM s.M on, br := torn } val = (6, { s with M := failM s.M on, br := true }) ∨ ∃ M' L' H' k, putM nN { s with M := failM s.M on, br := torn } val = (0, ⟨M', val, s.n + 1, k, false⟩) ∧ TInv (i + 1) ⟨M', val, s.n + 1, k, false⟩ r L' H') := by
  have hn := h.n
  refine ⟨fun ht => ?_, fun ht ho => ?_, fun ht ho => ?_⟩
  · subst ht
    exact put_br rfl val
  · subst ht ho
    exact put_fail (s := { s with M := failM s.M true, br := false }) rfl rfl hv (by show s.n ≠ _; omega)
  · subst ht ho
    rw [fail_off h.inv.M]
    have hs : ({ s with br := false } : SL) = s := by rw [← h.inv.br]
    have hs2 : ({ s with M := s.M, br := false } : SL) = s := hs
    rw [hs2]
    have hok2 := put_okM (nm := nN) (s := s) h.ok val
    rcases put_std name_n h.inv.M h.inv.br hv (by omega) with ⟨h1, _⟩ | h1
    · exact .inl h1
    · rw [h1] at hok2
      exact .inr ⟨_, _, _, _, h1, h.inv.put hv (by omega), h.r0, h.r1, hok2.mono (by omega), by show s.n + 1 ≤ i + 1; omega⟩
end Go.Proofs.Ytjgiphoolfhlmaa

/- Readings of the Go types millrace/millracelaw07.Step: written by wip/gentypes.py. -/
namespace Go.Proofs.Ytjgiphoolfhlmaa
open Go.RowKit Go.ChangeShapes Go.WideShapes
set_option linter.unusedVariables false
set_option maxRecDepth 100000

structure TMillracelaw07Step where
  fKind : Int
  fValue : ByteArray
  fRoom : Int
  fPicks : (List Int)

def RMillracelaw07Step (B : Nat) (w : World) (cs : List Value) (x : TMillracelaw07Step) : Prop :=
  ∃ (ao3 : Option Addr) (cap3 : Nat), cs = [.int .i64 x.fKind, .string x.fValue, .int .i64 x.fRoom, .slice ao3 x.fPicks.length cap3] ∧
    (Lit.int .i64 x.fKind).wf = true ∧
    x.fValue.size ≤ maxLen ∧
    (Lit.int .i64 x.fRoom).wf = true ∧
    SlA B 1 (RI .i64) w ao3 cap3 x.fPicks
theorem RMillracelaw07Step.imp {B B' : Nat} {w w' : World} {cs : List Value} {x : TMillracelaw07Step} (h : RMillracelaw07Step B w cs x) (hb : Below B w w') (hB : B ≤ B') : RMillracelaw07Step B' w' cs x := by
  obtain ⟨ao3, cap3, rfl, h0, h1, h2, h3⟩ := h
  exact ⟨ao3, cap3, rfl, h0, h1, h2, h3.imp hb hB (fun cs x _ h => (fun _ _ h => h) cs x h)⟩
theorem RMillracelaw07Step.at {B : Nat} {w : World} {x : TMillracelaw07Step} {b off i : Nat} {cap : Nat} {xs : List TMillracelaw07Step} (h : SlA B 4 (RMillracelaw07Step B) w (some ⟨b, off, none⟩) cap xs) (hi : i < xs.length) (hx : xs[i] = x) :
    ∃ (ao3 : Option Addr) (cap3 : Nat), w.cell? ⟨b, off + i * 4, none⟩ = some (.int .i64 x.fKind) ∧
    w.cell? ⟨b, off + i * 4 + 1, none⟩ = some (.string x.fValue) ∧
    w.cell? ⟨b, off + i * 4 + 2, none⟩ = some (.int .i64 x.fRoom) ∧
    w.cell? ⟨b, off + i * 4 + 3, none⟩ = some (.slice ao3 x.fPicks.length cap3) ∧
    (Lit.int .i64 x.fKind).wf = true ∧
    x.fValue.size ≤ maxLen ∧
    (Lit.int .i64 x.fRoom).wf = true ∧
    SlA B 1 (RI .i64) w ao3 cap3 x.fPicks := by
  obtain ⟨cs, _, hc, hr⟩ := h.get i hi
  rw [hx] at hr
  obtain ⟨ao3, cap3, rfl, h0, h1, h2, h3⟩ := hr
  exact ⟨ao3, cap3, by have := hc 0 (by omega); simpa [] using this, by have := hc 1 (by omega); simpa [Nat.add_assoc] using this, by have := hc 2 (by omega); simpa [Nat.add_assoc] using this, by have := hc 3 (by omega); simpa [Nat.add_assoc] using this, h0, h1, h2, h3⟩
theorem RMillracelaw07Step.of_trod {H : Type} {enc : TypeId × Value → H} {spare : Nat → Bool} {held : Bool} {B : Nat} {w : World} {fuel : Nat} {cs : List Value} {x : DataW H × List MemPlace}
    (h : DataW.trod enc Try.prog w 0 spare held fuel 40 cs = some x) (hp : ∀ p ∈ x.2, p.block < B) : ∃ a, RMillracelaw07Step B w cs a := by
  obtain ⟨ys, n, _, rfl, hl, hlen, hf⟩ := DataW.trod_struct Try.underlying40 h
  have hsz : Try.prog.cellsOf 40 = 4 := by kernel_rfl
  rw [hsz] at hl
  match cs, hl, ys, hlen, hf, hp with
  | [c0, c1, c2, c3], _, [y0, y1, y2, y3], _, hf, hp =>
    have g0 : DataW.trod enc Try.prog w 0 spare held n 3 (([c0, c1, c2, c3].drop 0).take (Try.prog.cellsOf 3)) = some y0 := hf 0 _ rfl
    rw [show Try.prog.cellsOf 3 = 1 by kernel_rfl] at g0
    have q0 : ∀ p ∈ y0.2, p.block < B := fun p hq => hp p (List.mem_flatMap.2 ⟨y0, by simp, hq⟩)
    obtain ⟨a0, r0⟩ := RI.of_trod Try.underlying3 g0
    have g1 : DataW.trod enc Try.prog w 0 spare held n 9 (([c0, c1, c2, c3].drop 1).take (Try.prog.cellsOf 9)) = some y1 := hf 1 _ rfl
    rw [show Try.prog.cellsOf 9 = 1 by kernel_rfl] at g1
    have q1 : ∀ p ∈ y1.2, p.block < B := fun p hq => hp p (List.mem_flatMap.2 ⟨y1, by simp, hq⟩)
    obtain ⟨a1, r1⟩ := RS.of_trod Try.underlying9 g1
    have g2 : DataW.trod enc Try.prog w 0 spare held n 3 (([c0, c1, c2, c3].drop 2).take (Try.prog.cellsOf 3)) = some y2 := hf 2 _ rfl
    rw [show Try.prog.cellsOf 3 = 1 by kernel_rfl] at g2
    have q2 : ∀ p ∈ y2.2, p.block < B := fun p hq => hp p (List.mem_flatMap.2 ⟨y2, by simp, hq⟩)
    obtain ⟨a2, r2⟩ := RI.of_trod Try.underlying3 g2
    have g3 : DataW.trod enc Try.prog w 0 spare held n 35 (([c0, c1, c2, c3].drop 3).take (Try.prog.cellsOf 35)) = some y3 := hf 3 _ rfl
    rw [show Try.prog.cellsOf 35 = 1 by kernel_rfl] at g3
    have q3 : ∀ p ∈ y3.2, p.block < B := fun p hq => hp p (List.mem_flatMap.2 ⟨y3, by simp, hq⟩)
    obtain ⟨a3, r3⟩ := RSl.of_trod (sz := 1) Try.underlying35 (by kernel_rfl) (by decide) g3 q3 (fun n cs y h hp => RI.of_trod Try.underlying3 h)
    obtain ⟨e0, w0⟩ := r0
    simp only [List.drop_zero, List.take_succ_cons, List.take_zero, List.cons.injEq, and_true] at e0
    obtain ⟨e1, w1⟩ := r1
    simp only [List.drop_succ_cons, List.drop_zero, List.take_succ_cons, List.take_zero, List.cons.injEq, and_true] at e1
    obtain ⟨e2, w2⟩ := r2
    simp only [List.drop_succ_cons, List.drop_zero, List.take_succ_cons, List.take_zero, List.cons.injEq, and_true] at e2
    obtain ⟨ao3, cap3, e3, w3⟩ := r3
    simp only [List.drop_succ_cons, List.drop_zero, List.take_succ_cons, List.take_zero, List.cons.injEq, and_true] at e3
    exact ⟨⟨a0, a1, a2, a3⟩, ao3, cap3, by simp [e0, e1, e2, e3], w0, w1, w2, w3⟩

end Go.Proofs.Ytjgiphoolfhlmaa
