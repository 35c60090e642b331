/- Model: Order, Empty, an operator's inputs. -/
import Derived.Test.YtbianedgogdeeaaMg
namespace Go.Proofs.Ytbianedgogdeeaa
open Go.RowKit Go.Maps Fold Go.Lib
attribute [local go_sem] Oper.semAt_some
set_option linter.unusedVariables false
set_option linter.unusedSimpArgs false

theorem eqR_nil (u : World) (m cap : Nat) : (binOp BinOp.eql 29 (.slice none m cap) (.slice none 0 0)).run Try.prog u = .ok (.bool true) u := by kernel_rfl
theorem eqR_some (u : World) (a : Addr) (m cap : Nat) : (binOp BinOp.eql 29 (.slice (some a) m cap) (.slice none 0 0)).run Try.prog u = .ok (.bool false) u := by kernel_rfl
attribute [local go_sem] eqR_nil eqR_some

set_option maxRecDepth 100000 in
set_option maxHeartbeats 1000000 in
theorem cloneR_any (l : PRS) (ao : Option Addr) (cap B : Nat) (w : World) (hB : B ≤ w.heap.size) (hx : PrA B w ao cap l) (hz : l.length ≤ 5864062014805) :
    Calls Try.prog 30 #[.slice ao l.length cap] w fun e w' => ∃ v', e = .returned v' ∧ OwnR w' w.heap.size v' l ∧ Below w.heap.size w w' := by
  obtain ⟨ii, hi, hz0, hz1, hz2⟩ := partsR
  obtain ⟨m, hm⟩ : ∃ m, m = l.length := ⟨_, rfl⟩
  rw [← hm]
  cases ao with
  | none =>
    have hm0 : l = [] := by
      cases l with
      | nil => rfl
      | cons a r =>
        obtain ⟨b, off, e, _⟩ := hx.addr (by simp)
        cases e
    subst hm0
    simp only [List.length_nil] at hm
    subst hm
    go_enter Try.func30, Try.ntmps30
    go_wp2_with fail
    go_ret
    exact ⟨_, rfl, OwnL.nil _ _ _ _ _, Below.refl _ _⟩
  | some a =>
    replace hm := Lib.hid hm
    go_enter Try.func30, Try.ntmps30
    go_wp2_with (at_builtin; refine Shut.out ?ka)
    unfold Shut
    have hii2 : PrA w.heap.size (w.alloc (.cells #[] 53)) (some a) cap l := (hx.imp' ((belowAlloc w _).mono hB) (Nat.le_refl _)).imp (Below.refl _ _) hB (fun _ _ _ h => h)
    refine wpList_app_sla (xs := []) (ys := l) (enc := encR) (base := w.heap.size) _ rfl _ _ 29 rfl Try.underlying29 hi hz0 hz1 hz2 rfl (by decide) rfl (ownEmpty w 2 53) (by show Value.slice (some a) m cap = _; rw [hm.out]) hii2 encR_len encR_one (by unfold maxLen; simp; omega) (by simp; omega) (by simp) (fun v3 w3 hown3 hgr3 => ?_)
    rw [List.nil_append] at hown3
    have hb23 : Below w.heap.size w w3 := (belowAlloc w (.cells #[] 53)).grown hgr3 (by simp) (fun g hg => by simp [Act.eval, Value.ownBlock] at hg; omega)
    clear hii2 hgr3
    go_wp2_with fail
    go_ret
    exact ⟨_, rfl, hown3, hb23⟩

set_option maxRecDepth 100000 in
theorem order_any (l : PRS) (ao : Option Addr) (cap B : Nat) (w : World) (hB : B ≤ w.heap.size) (hx : PrA B w ao cap l) (hz : l.length ≤ 5864062014805) :
    Calls Try.prog 15 #[.slice ao l.length cap] w fun e w' => ∃ v', e = .returned v' ∧ OwnR w' w.heap.size v' (sortP l) ∧ Below w.heap.size w w' := by
  have hc := cloneR_any l ao cap B w hB hx hz
  replace hc := Lib.hid hc
  clear hx
  go_enter Try.func15, Try.ntmps15
  go_wp2_with fail
  refine hc.out.mono ?_
  rintro e w1 ⟨v, rfl, h1, hb1⟩
  have hs := sortR_any l v w1 w.heap.size h1 (by omega)
  have hlt := h1.lt
  replace hs := Lib.hid hs
  clear hc h1
  dsimp only
  go_wp2_with fail
  refine hs.out.mono ?_
  rintro e w2 ⟨rfl, ho, hg⟩
  have hb2 : Below w.heap.size w w2 := hb1.grown hg hb1.size (fun g e => (hlt g e).1)
  dsimp only
  go_wp2_with fail
  go_ret
  exact ⟨v, rfl, ho, hb2⟩

theorem madeCells_one (z : Value) (n : Nat) : madeCells #[z] n = Array.replicate n z := by
  apply Array.ext_getElem?
  intro i
  simp [madeCells]
  by_cases hi : i < n
  · simp [hi, Nat.mod_one]
  · simp [hi]
theorem infoRS : (Try.prog.info? 29).map (fun i => (i.zero, i.size, i.bytes)) = some (some (.slice none 0 0), 1, 24) := by kernel_rfl
theorem partsRS : ∃ i, Try.prog.info? 29 = some i ∧ i.zero = some (.slice none 0 0) ∧ i.size = 1 ∧ i.bytes = 24 := infoParts infoRS
theorem makeRS (n : Nat) (hn : n ≤ 5864062014805) (w : World) : (Instr.makeSlice 25 (.int .i64 (n : Int)) (.int .i64 (n : Int))).run Try.prog w = .ok (.slice (some ⟨w.heap.size, 0, none⟩) n n) (w.alloc (.cells (Array.replicate n (.slice none 0 0)) 29)) := by
  obtain ⟨i, hi, hz0, hz1, hz2⟩ := partsRS
  have h := run_make (P := Try.prog) w 25 29 i _ Try.underlying25 hi hz0 .i64 .i64 (n : Int) (n : Int) (by omega) (Int.le_refl _) (by rw [hz2]; omega) (by omega)
  rw [hz1, Int.toNat_natCast, Nat.mul_one, show Value.cells (.slice none 0 0) = #[.slice none 0 0] from rfl, madeCells_one] at h
  exact h
set_option maxRecDepth 100000 in
theorem empty_any (n : Nat) (ao : Option Addr) (gcap : Nat) (w : World) (hn : n ≤ 5864062014805) :
    Calls Try.prog 16 #[.agg #[.slice ao n gcap]] w fun e w' => ∃ rb, e = .returned (.agg #[.slice (some ⟨rb, 0, none⟩) n n]) ∧ Blk w' rb (Array.replicate n (.slice none 0 0)) 29 ∧ w.heap.size ≤ rb ∧ Below w.heap.size w w' := by
  have hmk := makeRS n hn
  generalize Array.replicate n (Value.slice none 0 0) = rc at hmk ⊢
  go_enter Try.func16, Try.ntmps16
  go_wp2_with fail
  have hB2 : Blk (((w.alloc (.cells #[.slice ao n gcap] 24)).alloc (.cells #[.slice (some ⟨w.heap.size + 1 + 1, 0, none⟩) n n] 27)).alloc (.cells rc 29)) (w.heap.size + 1) #[.slice (some ⟨w.heap.size + 1 + 1, 0, none⟩) n n] 27 := by
    have h1 := (Blk.new (w.alloc (.cells #[.slice ao n gcap] 24)) #[.slice (some ⟨w.heap.size + 1 + 1, 0, none⟩) n n] 27).alloc (.cells rc 29)
    rwa [World.size_alloc] at h1
  refine bodyPost_ret (results_cell_row rfl _ _ (w.heap.size + 1) 27 _ (0, 0) _ rfl hB2 Try.underlying27 rfl (by kernel_rfl)) rfl ?_
  refine ⟨w.heap.size + 1 + 1, rfl, ?_, by omega, (by repeat (first | exact Below.refl _ _ | refine below_drewN ?_ _ | refine Below.drew ?_ | (refine Below.alloc ?_ (by simp; try omega) _)))⟩
  have h2 := Blk.new ((w.alloc (.cells #[.slice ao n gcap] 24)).alloc (.cells #[.slice (some ⟨w.heap.size + 1 + 1, 0, none⟩) n n] 27)) rc 29
  rwa [World.size_alloc, World.size_alloc] at h2

/-- A state as it lies. -/
abbrev StA (w : World) (B : Nat) (so : Option Addr) (cap : Nat) (s : ST) : Prop := SlA B 1 (RSl B 2 (fun _ cs p => cs = encR p)) w so cap s
theorem StA.at {w : World} {B b off cap i : Nat} {s : ST} (h : StA w B (some ⟨b, off, none⟩) cap s) (hi : i < s.length) : ∃ ao c, w.cell? ⟨b, off + i, none⟩ = some (.slice ao s[i].length c) ∧ PrA B w ao c s[i] := by
  obtain ⟨cs, _, hc, ao, c, rfl, hr⟩ := h.get i hi
  exact ⟨ao, c, by have := hc 0 (by omega); simpa using this, hr⟩
theorem StA.imp' {w w' : World} {B B' : Nat} {so : Option Addr} {cap : Nat} {s : ST} (h : StA w B so cap s) (hb : Below B w w') (hB : B ≤ B') : StA w' B' so cap s :=
  h.imp hb hB (fun _ _ _ h => RSl.imp h hb hB (fun _ _ _ h => h))
def stOf (x : TState) : ST := x.fFolds.map (fun l => l.map prOf)
def okS (s : ST) : Prop := ∀ l ∈ s, ∀ p ∈ l, okR p
theorem sta_of_in {w : World} {B : Nat} {so : Option Addr} {cap : Nat} {xs : List (List TPair)} (h : SlA B 1 (RSl B 2 (RPair B)) w so cap xs) : StA w B so cap (xs.map (fun l => l.map prOf)) ∧ okS (xs.map (fun l => l.map prOf)) :=
  ⟨SlA.mapped _ h (fun cs x _ hx => by
    obtain ⟨ao, c, rfl, hl⟩ := hx
    exact ⟨ao, c, by rw [List.length_map], (pra_of_in hl).1⟩), fun l hl p hp => by
    obtain ⟨x, hx, rfl⟩ := List.mem_map.1 hl
    obtain ⟨cs, ao, c, rfl, hr⟩ := SlA.all h x hx
    exact (pra_of_in hr).2 p hp⟩

/-- The closure 'in' of an operator. -/
theorem in_any (k j fb ob fr n m : Nat) (io : Option Addr) (icap ib ioff : Nat) (vs : List Value) (w : World) (hf : w.cell? ⟨fb, 0, none⟩ = some (.slice (some ⟨fr, 0, none⟩) n n)) (ho : w.cell? ⟨ob, 1, none⟩ = some (.slice (some ⟨ib, ioff, none⟩) m icap))
    (hk : k < m) (hi : w.cell? ⟨ib, ioff + k, none⟩ = some (.int .i64 j)) (hj : j < n) (v : Value) (hv : w.cell? ⟨fr, j, none⟩ = some v) :
    Calls Try.prog 29 #[.int .i64 k, .pointer (some ⟨fb, 0, none⟩), .pointer (some ⟨ob, 0, none⟩)] w fun e w' => e = .returned v ∧ Below w.heap.size w w' := by
  go_enter Try.func29, Try.ntmps29
  go_wp2_with fail
  go_quiet (fail)
  go_wp2_with fail
  go_ret
  exact ⟨rfl, (by repeat (first | exact Below.refl _ _ | refine below_drewN ?_ _ | refine Below.drew ?_ | (refine Below.alloc ?_ (by simp; try omega) _)))⟩
end Go.Proofs.Ytbianedgogdeeaa
