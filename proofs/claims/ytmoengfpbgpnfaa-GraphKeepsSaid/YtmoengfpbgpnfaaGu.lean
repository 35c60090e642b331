/- Graph: the iterator Uses: its contract. -/
import Derived.RangeFuncNested
import Derived.RangeFuncBound
import Derived.RangeFuncCalls
import Derived.RangeFuncLeaves
import Derived.RangeFuncWrites
import Derived.Shelf.Abstract
import Derived.Shelf.RegionOpen
import Derived.WalkKit
import Derived.OwnWalkIn
import Derived.TacticsInMore
import Derived.LoopNIn
import Derived.LoopIn
import Derived.Test.YtmoengfpbgpnfaaGcheck
namespace Go.Proofs.Ytmoengfpbgpnfaa
open Go.RowKit Go.Shelf
attribute [local go_sem] Oper.semAt_some
set_option linter.unusedVariables false

/-- The blocks of S lie as they lay. -/
structure KeepS (S : Nat → Prop) (w w' : World) : Prop where
  os : w'.os = w.os
  tape : w'.tape = w.tape
  output : w'.output = w.output
  size : w.heap.size ≤ w'.heap.size
  block : ∀ k, S k → w'.heap[k]? = w.heap[k]?
theorem KeepS.refl (S : Nat → Prop) (W : World) : KeepS S W W := ⟨rfl, rfl, rfl, Nat.le_refl _, fun _ _ => rfl⟩
theorem KeepS.trans {S : Nat → Prop} {A B C : World} (h : KeepS S A B) (k : KeepS S B C) : KeepS S A C :=
  ⟨k.os.trans h.os, k.tape.trans h.tape, k.output.trans h.output, Nat.le_trans h.size k.size, fun i hs => (k.block i hs).trans (h.block i hs)⟩
theorem KeepS.below {S : Nat → Prop} {A C : World} (h : KeepS S A C) {B : Nat} (hb : ∀ i, i < B → S i) : Below B A C := ⟨h.os, h.tape, h.output, h.size, fun k hk => h.block k (hb k hk)⟩
theorem KeepS.cell {S : Nat → Prop} {A B : World} (h : KeepS S A B) {b off : Nat} (hs : S b) : B.cell? ⟨b, off, none⟩ = A.cell? ⟨b, off, none⟩ := by
  simp only [World.cell?, h.block b hs]
theorem KeepS.of_below {S : Nat → Prop} {A B : World} {n : Nat} (h : Below n A B) (hs : ∀ i, S i → i < n) : KeepS S A B := ⟨h.os, h.tape, h.output, h.size, fun i hi => h.block i (hs i hi)⟩
theorem KeepS.alloc {S : Nat → Prop} {A B : World} (h : KeepS S A B) (hs : ∀ i, S i → i < B.heap.size) (o : Obj) : KeepS S A (B.alloc o) :=
  h.trans (.of_below ((Below.refl B.heap.size B).alloc (Nat.le_refl _) o) hs)

/-- The inputs ahead of k of operator i that are fr. -/
def insK (i : Nat) (ins : List Int) (fr : Int) (k : Nat) : List (Nat × Nat) := ((List.range k).filter fun j => ins[j]?.getD 0 == fr).map fun j => (i, j)
def usesK (ops : List TOp) (fr : Int) (m : Nat) : List (Nat × Nat) := (List.range m).flatMap fun i => insK i ((ops[i]?.map TOp.fIn).getD []) fr ((ops[i]?.map TOp.fIn).getD []).length
def usesL (ops : List TOp) (fr : Int) : List (Nat × Nat) := usesK ops fr ops.length
theorem insK_succ (i : Nat) (ins : List Int) (fr : Int) (k : Nat) : insK i ins fr (k + 1) = insK i ins fr k ++ if ins[k]?.getD 0 == fr then [(i, k)] else [] := by
  unfold insK
  rw [List.range_succ, List.filter_append, List.map_append]
  congr 1
  by_cases h : (ins[k]?.getD 0 == fr) = true <;> simp [h]
theorem usesK_succ (ops : List TOp) (fr : Int) (m : Nat) (x : TOp) (h : ops[m]? = some x) : usesK ops fr (m + 1) = usesK ops fr m ++ insK m x.fIn fr x.fIn.length := by
  unfold usesK
  rw [List.range_succ, List.flatMap_append]
  simp [h]
theorem insK_prefix (i : Nat) (ins : List Int) (fr : Int) {a b : Nat} (h : a ≤ b) : insK i ins fr a <+: insK i ins fr b := by
  obtain ⟨c, rfl⟩ : ∃ c, b = a + c := ⟨b - a, by omega⟩
  induction c with
  | zero => exact List.prefix_refl _
  | succ c ih => exact (ih (by omega)).trans (by rw [← Nat.add_assoc, insK_succ]; exact List.prefix_append _ _)
theorem usesK_prefix (ops : List TOp) (fr : Int) {a b : Nat} (h : a ≤ b) (hb : b ≤ ops.length) : usesK ops fr a <+: usesK ops fr b := by
  obtain ⟨c, rfl⟩ : ∃ c, b = a + c := ⟨b - a, by omega⟩
  induction c with
  | zero => exact List.prefix_refl _
  | succ c ih => exact (ih (by omega) (by omega)).trans (by rw [← Nat.add_assoc, usesK_succ ops fr (a + c) _ (List.getElem?_eq_getElem (by omega))]; exact List.prefix_append _ _)

set_option maxRecDepth 100000 in
set_option maxHeartbeats 2000000 in
theorem uses1_in (F : Fence) (n : Nat) (h21 : F.fn 21) (hro : F.round = none) (hn : 1 ≤ n) (l Bg Bf B : Nat) (S : Nat → Prop) (ops : List TOp) (b off cap : Nat) (fr : Int) (J Jx : List (Nat × Nat) → World → Prop) (W : World)
    (hS : ∀ i, i < B → S i) (hSf : S Bf) (hSs : ∀ i, S i → i < W.heap.size) (hJ : AbidesFrom W.heap.size J)
    (hY : ∀ pre x W1, J pre W1 → pre ++ [x] <+: usesL ops fr → YieldAt F (n - 1) Try.prog l #[.int .i64 (x.1 : Nat), .int .i64 (x.2 : Nat)] W1 fun e W' =>
      (e = .returned (.bool true) ∧ J (pre ++ [x]) W' ∧ KeepS S W1 W') ∨ (e = .returned (.bool false) ∧ Jx (pre ++ [x]) W'))
    (hx : SlA B 7 (ROp B) W (some ⟨b, off, none⟩) cap ops) (hb : b < B) (hBg : W.cell? ⟨Bg, 0, none⟩ = some (.slice (some ⟨b, off, none⟩) ops.length cap)) (hBf : W.cell? ⟨Bf, 0, none⟩ = some (.int .i64 fr)) (h0 : J [] W) :
    CallsIn F n Try.prog 21 #[.func (.yield l) #[] #[], .pointer (some ⟨Bg, 0, none⟩), .pointer (some ⟨Bf, 0, none⟩)] W fun e W' => (∃ v, e = .returned v) ∧
      ((∃ ys, ys = usesL ops fr ∧ J ys W') ∨ (∃ pre, pre <+: usesL ops fr ∧ Jx pre W')) := by
  obtain ⟨m, hm⟩ : ∃ m, m = ops.length := ⟨_, rfl⟩
  rw [← hm] at hBg
  have hml := hx.len
  rw [← hm] at hml
  replace hm := Lib.hid hm
  refine callsIn_of_wp Try.func21 rfl h21 ?_ hro
  simp only [Try.ntmps21, List.size_toArray, List.length_cons, List.length_nil, Nat.reduceAdd, Nat.reduceSub, Array.replicate_succ, Array.replicate_zero, List.push_toArray, List.append_toArray, List.nil_append, List.cons_append]
  gi_wp2
  gi_loopw [11] (fun i wr => ∃ ii : Nat, ii ≤ m ∧ i = .int .i64 ii ∧ J (usesK ops fr ii) wr ∧ KeepS S W wr) (fun i _ => m - (intOf i).toNat)
  case atStart => exact ⟨0, Nat.zero_le _, rfl, by simpa [usesK] using h0, KeepS.refl _ _⟩
  case round =>
    obtain ⟨ii, hi, rfl, hJs, hk⟩ := hrel
    by_cases hlt : ii < m
    · have hix : ii < ops.length := by rw [← hm.out]; exact hlt
      obtain ⟨x, hxx⟩ : ∃ x, ops[ii] = x := ⟨_, rfl⟩
      have hbel := hk.below hS
      obtain ⟨ao1, cap1, e0, e1, e2, e3, e4, e5, e6, _, hin, _⟩ := ROp.at (imp_ops hx hbel) hix hxx
      replace hxx := Lib.hid hxx
      obtain ⟨il, hil⟩ : ∃ il, il = x.fIn.length := ⟨_, rfl⟩
      rw [← hil] at e1
      have hill := hin.len
      rw [← hil] at hill
      replace hil := Lib.hid hil
      have hb3 : b < wr.heap.size := by have := hSs b (hS b hb); have := hk.size; omega
      gi_wp2
      gi_loopw [19] (fun k wx => ∃ kk : Nat, kk ≤ il ∧ k = .int .i64 kk ∧ J (usesK ops fr ii ++ insK ii x.fIn fr kk) wx ∧ KeepS S W wx) (fun k _ => il - (intOf k).toNat)
      case atStart =>
        refine ⟨0, Nat.zero_le _, rfl, ?_, hk.alloc (fun i hi => Nat.lt_of_lt_of_le (hSs i hi) hk.size) _⟩
        rw [show insK ii x.fIn fr 0 = [] from rfl, List.append_nil]
        exact hJ _ _ _ none hJs (World.grownBy_alloc wr _ none) (by simp)
      case round =>
        clear hJs e0 e1 e2 e3 e4 e5 e6
        obtain ⟨kk, hkk, rfl, hJk, hkx⟩ := hrel
        have hsz : wr.heap.size ≤ wr.heap.size := Nat.le_refl _
        by_cases hkl : kk < il
        · have hklx : kk < x.fIn.length := by rw [← hil.out]; exact hkl
          obtain ⟨b2, off2, rfl, hb2, _⟩ := hin.addr (by omega)
          have hbx : b2 < B := hb2
          obtain ⟨v, hv⟩ : ∃ v, v = x.fIn[kk] := ⟨_, rfl⟩
          have hcv : W.cell? ⟨b2, off2 + kk, none⟩ = some (.int .i64 v) := by
            have hc := (hin.get kk hklx)
            obtain ⟨cs, _, h6, rfl, _⟩ := hc
            have h7 := h6 0 (by omega)
            rw [Nat.mul_one, Nat.add_zero] at h7
            rw [← (hk.cell (b := b2) (off := off2 + kk) (hS b2 hb2)), h7, hv]
            rfl
          have hcx := (hkx.cell (b := b2) (off := off2 + kk) (hS b2 hb2)).trans hcv
          have hfx := (hkx.cell (b := Bf) (off := 0) hSf).trans hBf
          have hsucc := insK_succ ii x.fIn fr kk
          rw [List.getElem?_eq_getElem hklx, Option.getD_some, ← hv] at hsucc
          replace hv := Lib.hid hv
          by_cases hvf : v = fr
          · have hpx : usesK ops fr ii ++ insK ii x.fIn fr (kk + 1) <+: usesL ops fr := by
              refine List.IsPrefix.trans ?_ (usesK_prefix ops fr (show ii + 1 ≤ ops.length by omega) (Nat.le_refl _))
              rw [usesK_succ ops fr ii x (by rw [List.getElem?_eq_getElem hix, hxx.out])]
              exact (List.prefix_append_right_inj _).2 (insK_prefix ii x.fIn fr (by omega))
            have hs2 : insK ii x.fIn fr (kk + 1) = insK ii x.fIn fr kk ++ [(ii, kk)] := by rw [hsucc, hvf]; simp
            rw [hs2] at hpx
            rw [← List.append_assoc] at hpx
            obtain ⟨fn, tmps, assign, body, hy, hR⟩ := hY _ (ii, kk) _ hJk hpx
            dsimp only at hy
            rw [hvf] at hcx
            gi_wp2
            refine hR.mono ?_
            rintro e W3 (⟨rfl, hJ3, hk3⟩ | ⟨rfl, hJx3⟩)
            · gi_wp2
              go_roundw
              case rel => exact ⟨kk + 1, by omega, by go_num, by rw [hs2, ← List.append_assoc]; exact hJ3, hkx.trans hk3⟩
              case measure => simp [intOf]; omega
            · gi_wp2
              refine bodyPost_ret (results_none rfl _ _ _) rfl ?_
              exact ⟨⟨_, rfl⟩, .inr ⟨_, hpx, hJx3⟩⟩
          · have hvf2 : (v == fr) = false := by simpa using hvf
            gi_wp2
            refine ⟨fun _ h => (by cases h), ?_⟩
            gi_wp2
            go_roundw
            case rel => exact ⟨kk + 1, by omega, by go_num, by rw [hsucc, hvf2]; simpa using hJk, hkx⟩
            case measure => simp [intOf]; omega
        · obtain rfl : kk = il := by omega
          gi_wp2
          go_roundw
          case rel => exact ⟨ii + 1, by omega, by go_num, by rw [usesK_succ ops fr ii x (by rw [List.getElem?_eq_getElem hix, hxx.out]), ← hil.out]; exact hJk, hkx⟩
          case measure => simp [intOf]; omega
    · obtain rfl : ii = m := by omega
      gi_wp2
      go_end0
      exact ⟨⟨_, rfl⟩, .inl ⟨_, rfl, by rw [usesL, ← hm.out]; exact hJs⟩⟩

set_option maxRecDepth 100000 in
set_option maxHeartbeats 1000000 in
theorem uses1_nil_in (F : Fence) (n : Nat) (h21 : F.fn 21) (hro : F.round = none) (l Bg Bf : Nat) (ao : Option Addr) (cap : Nat) (J : List (Nat × Nat) → World → Prop) (W : World)
    (hBg : W.cell? ⟨Bg, 0, none⟩ = some (.slice ao 0 cap)) (h0 : J [] W) :
    CallsIn F n Try.prog 21 #[.func (.yield l) #[] #[], .pointer (some ⟨Bg, 0, none⟩), .pointer (some ⟨Bf, 0, none⟩)] W fun e W' => (∃ v, e = .returned v) ∧ J [] W' := by
  refine callsIn_of_wp Try.func21 rfl h21 ?_ hro
  simp only [Try.ntmps21, List.size_toArray, List.length_cons, List.length_nil, Nat.reduceAdd, Nat.reduceSub, Array.replicate_succ, Array.replicate_zero, List.push_toArray, List.append_toArray, List.nil_append, List.cons_append]
  gi_wp2
  gi_loopw [11] (fun i wr => i = .int .i64 0 ∧ J [] wr) (fun _ _ => 0)
  case atStart => exact ⟨rfl, h0⟩
  case round =>
    obtain ⟨rfl, hJs⟩ := hrel
    gi_wp2
    go_end0
    exact ⟨⟨_, rfl⟩, hJs⟩

/-- A use of an operator. -/
abbrev UseOf (ops : List TOp) (fr : Int) : Type := { x : Nat × Nat // x ∈ usesL ops fr }
theorem uses_stops (F : Fence) (n : Nat) (h21 : F.fn 21) (hro : F.round = none) (hn : 1 ≤ n) (Bg Bf B : Nat) (S : Nat → Prop) (ops : List TOp) (ao : Option Addr) (cap : Nat) (fr : Int) (w : World)
    (hS : ∀ i, i < B → S i) (hSf : S Bf) (hSs : ∀ i, S i → i < w.heap.size) (hBl : Bg < w.heap.size)
    (hx : SlA B 7 (ROp B) w ao cap ops) (hBg : w.cell? ⟨Bg, 0, none⟩ = some (.slice ao ops.length cap)) (hBf : w.cell? ⟨Bf, 0, none⟩ = some (.int .i64 fr)) :
    SeqStopsK F n Try.prog 21 #[.pointer (some ⟨Bg, 0, none⟩), .pointer (some ⟨Bf, 0, none⟩)] (fun x : UseOf ops fr => #[Value.int .i64 (x.1.1 : Nat), Value.int .i64 (x.1.2 : Nat)]) (KeepS S)
      (fun ys => ys.map (·.1) = usesL ops fr) (fun pre => pre.map (·.1) <+: usesL ops fr) (usesL ops fr).length w := fun l J Jx W hW hJ _ hY h0 => by
  have hfl := hSs Bf hSf
  have hBg' := (hW.cell (p := ⟨Bg, 0, none⟩) hBl).trans hBg
  have hBf' := (hW.cell (p := ⟨Bf, 0, none⟩) hfl).trans hBf
  have hBle : B ≤ w.heap.size := by
    cases B with
    | zero => omega
    | succ k => have := hSs k (hS k (by omega)); omega
  have hx' := imp_ops hx (hW.mono hBle)
  have hJ' : AbidesFrom W.heap.size (fun (pre : List (Nat × Nat)) V => ∃ pre' : List (UseOf ops fr), pre'.map (·.1) = pre ∧ J pre' V) := fun s A C row ⟨pre', h1, h2⟩ hg hr => ⟨pre', h1, hJ _ _ _ _ h2 hg hr⟩
  by_cases hne : 0 < ops.length
  · obtain ⟨b, off, rfl, hb, _⟩ := hx'.addr hne
    refine (uses1_in F n h21 hro hn l Bg Bf B S ops b off cap fr (fun pre V => ∃ pre' : List (UseOf ops fr), pre'.map (·.1) = pre ∧ J pre' V) (fun pre V => ∃ pre' : List (UseOf ops fr), pre'.map (·.1) = pre ∧ Jx pre' V) W hS hSf (fun i hi => Nat.lt_of_lt_of_le (hSs i hi) hW.size) hJ' ?_ hx' hb hBg' hBf' ⟨[], rfl, h0⟩).mono ?_
    · rintro pre x W1 ⟨pre', rfl, hj⟩ hpx
      have hm : x ∈ usesL ops fr := hpx.subset (by simp)
      obtain ⟨fn, tmps, assign, body, hy, hR⟩ := hY pre' ⟨x, hm⟩ W1 hj (by have := hpx.length_le; simp at this; omega)
      refine ⟨fn, tmps, assign, body, hy, hR.mono ?_⟩
      rintro e W' (⟨he, h1, h2⟩ | ⟨he, h1⟩)
      · exact .inl ⟨he, ⟨_, by simp, h1⟩, h2⟩
      · exact .inr ⟨he, _, by simp, h1⟩
    · rintro e W' ⟨hv, (⟨ys, rfl, ys', h1, h2⟩ | ⟨pre, h1, pre', rfl, h3⟩)⟩
      · exact ⟨hv, .inl ⟨ys', h1, h2⟩⟩
      · exact ⟨hv, .inr ⟨pre', h1, h3⟩⟩
  · obtain rfl : ops = [] := List.length_eq_zero_iff.1 (by omega)
    exact (uses1_nil_in F n h21 hro l Bg Bf ao cap (fun pre V => ∃ pre' : List (UseOf [] fr), pre'.map (·.1) = pre ∧ J pre' V) W hBg' ⟨[], rfl, h0⟩).mono fun e W' ⟨he, ys', h1, h2⟩ => ⟨he, .inl ⟨ys', h1, h2⟩⟩

set_option maxHeartbeats 1000000 in
theorem uses_in (F : Fence) (n : Nat) (h12 : F.fn 12) (hro : F.round = none) (ao : Option Addr) (len cap : Nat) (fr : Int) (w : World) :
    CallsIn F n Try.prog 12 #[.agg #[.slice ao len cap], .int .i64 fr] w fun e w' => e = .returned (.func (.func 21) #[] #[.pointer (some ⟨w.heap.size, 0, none⟩), .pointer (some ⟨w.heap.size + 1, 0, none⟩)]) ∧
      w' = (w.alloc (.cells #[.slice ao len cap] 24)).alloc (.cells #[.int .i64 fr] 3) := by
  refine callsIn_of_wp Try.func12 rfl h12 ?_ hro
  simp only [Try.ntmps12, List.size_toArray, List.length_cons, List.length_nil, Nat.reduceAdd, Nat.reduceSub, Array.replicate_succ, Array.replicate_zero, List.push_toArray, List.append_toArray, List.nil_append, List.cons_append]
  gi_wp2
  go_ret
  exact ⟨rfl, rfl⟩
end Go.Proofs.Ytmoengfpbgpnfaa
