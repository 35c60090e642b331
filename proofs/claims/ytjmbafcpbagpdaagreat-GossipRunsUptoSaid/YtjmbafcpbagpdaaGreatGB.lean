/- Graph: the iterator Uses: its contract. -/
import Derived.RangeFuncNested
import Derived.RangeFuncBound
import Derived.RangeFuncCalls
import Derived.RangeFuncLeaves
import Derived.RangeFuncWrites
import Derived.Shelf.Abstract
import Derived.Shelf.RegionOpen
import Derived.WalkKit
import Derived.OwnWalkIn
import Derived.TacticsInMore
import Derived.LoopNIn
import Derived.LoopIn
import Derived.Test.YtjmbafcpbagpdaaGreatGA
import Derived.Test.YtjmbafcpbagpdaaGreatL2
import Derived.Laws.OwnMore
import Derived.Test.YtjmbafcpbagpdaaGreatL1
import Derived.Deep.Cut
namespace Go.Proofs.YtjmbafcpbagpdaaGreat
open Go.RowKit Go.Shelf
attribute [local go_sem] Oper.semAt_some
set_option linter.unusedVariables false

/-- The blocks of S lie as they lay. -/
structure KeepS (S : Nat → Prop) (w w' : World) : Prop where
  os : w'.os = w.os
  tape : w'.tape = w.tape
  output : w'.output = w.output
  size : w.heap.size ≤ w'.heap.size
  block : ∀ k, S k → w'.heap[k]? = w.heap[k]?
theorem KeepS.refl (S : Nat → Prop) (W : World) : KeepS S W W := ⟨rfl, rfl, rfl, Nat.le_refl _, fun _ _ => rfl⟩
theorem KeepS.trans {S : Nat → Prop} {A B C : World} (h : KeepS S A B) (k : KeepS S B C) : KeepS S A C :=
  ⟨k.os.trans h.os, k.tape.trans h.tape, k.output.trans h.output, Nat.le_trans h.size k.size, fun i hs => (k.block i hs).trans (h.block i hs)⟩
theorem KeepS.below {S : Nat → Prop} {A C : World} (h : KeepS S A C) {B : Nat} (hb : ∀ i, i < B → S i) : Below B A C := ⟨h.os, h.tape, h.output, h.size, fun k hk => h.block k (hb k hk)⟩
theorem KeepS.cell {S : Nat → Prop} {A B : World} (h : KeepS S A B) {b off : Nat} (hs : S b) : B.cell? ⟨b, off, none⟩ = A.cell? ⟨b, off, none⟩ := by
  simp only [World.cell?, h.block b hs]
theorem KeepS.of_below {S : Nat → Prop} {A B : World} {n : Nat} (h : Below n A B) (hs : ∀ i, S i → i < n) : KeepS S A B := ⟨h.os, h.tape, h.output, h.size, fun i hi => h.block i (hs i hi)⟩
theorem KeepS.alloc {S : Nat → Prop} {A B : World} (h : KeepS S A B) (hs : ∀ i, S i → i < B.heap.size) (o : Obj) : KeepS S A (B.alloc o) :=
  h.trans (.of_below ((Below.refl B.heap.size B).alloc (Nat.le_refl _) o) hs)

/-- The inputs ahead of k of operator i that are fr. -/
def insK (i : Nat) (ins : List Int) (fr : Int) (k : Nat) : List (Nat × Nat) := ((List.range k).filter fun j => ins[j]?.getD 0 == fr).map fun j => (i, j)
def usesK (ops : List TOp) (fr : Int) (m : Nat) : List (Nat × Nat) := (List.range m).flatMap fun i => insK i ((ops[i]?.map TOp.fIn).getD []) fr ((ops[i]?.map TOp.fIn).getD []).length
def usesL (ops : List TOp) (fr : Int) : List (Nat × Nat) := usesK ops fr ops.length
theorem insK_succ (i : Nat) (ins : List Int) (fr : Int) (k : Nat) : insK i ins fr (k + 1) = insK i ins fr k ++ if ins[k]?.getD 0 == fr then [(i, k)] else [] := by
  unfold insK
  rw [List.range_succ, List.filter_append, List.map_append]
  congr 1
  by_cases h : (ins[k]?.getD 0 == fr) = true <;> simp [h]
theorem usesK_succ (ops : List TOp) (fr : Int) (m : Nat) (x : TOp) (h : ops[m]? = some x) : usesK ops fr (m + 1) = usesK ops fr m ++ insK m x.fIn fr x.fIn.length := by
  unfold usesK
  rw [List.range_succ, List.flatMap_append]
  simp [h]
theorem insK_prefix (i : Nat) (ins : List Int) (fr : Int) {a b : Nat} (h : a ≤ b) : insK i ins fr a <+: insK i ins fr b := by
  obtain ⟨c, rfl⟩ : ∃ c, b = a + c := ⟨b - a, by omega⟩
  induction c with
  | zero => exact List.prefix_refl _
  | succ c ih => exact (ih (by omega)).trans (by rw [← Nat.add_assoc, insK_succ]; exact List.prefix_append _ _)
theorem usesK_prefix (ops : List TOp) (fr : Int) {a b : Nat} (h : a ≤ b) (hb : b ≤ ops.length) : usesK ops fr a <+: usesK ops fr b := by
  obtain ⟨c, rfl⟩ : ∃ c, b = a + c := ⟨b - a, by omega⟩
  induction c with
  | zero => exact List.prefix_refl _
  | succ c ih => exact (ih (by omega) (by omega)).trans (by rw [← Nat.add_assoc, usesK_succ ops fr (a + c) _ (List.getElem?_eq_getElem (by omega))]; exact List.prefix_append _ _)

set_option maxRecDepth 100000 in
set_option maxHeartbeats 2000000 in
theorem uses1_in (F : Fence) (n : Nat) (h21 : F.fn 81) (hro : F.round = none) (hn : 1 ≤ n) (l Bg Bf B : Nat) (S : Nat → Prop) (ops : List TOp) (b off cap : Nat) (fr : Int) (J Jx : List (Nat × Nat) → World → Prop) (W : World)
    (hS : ∀ i, i < B → S i) (hSf : S Bf) (hSs : ∀ i, S i → i < W.heap.size) (hJ : AbidesFrom W.heap.size J)
    (hY : ∀ pre x W1, J pre W1 → pre ++ [x] <+: usesL ops fr → YieldAt F (n - 1) Tryz.prog l #[.int .i64 (x.1 : Nat), .int .i64 (x.2 : Nat)] W1 fun e W' =>
      (e = .returned (.bool true) ∧ J (pre ++ [x]) W' ∧ KeepS S W1 W') ∨ (e = .returned (.bool false) ∧ Jx (pre ++ [x]) W'))
    (hx : SlA B 7 (ROp B) W (some ⟨b, off, none⟩) cap ops) (hb : b < B) (hBg : W.cell? ⟨Bg, 0, none⟩ = some (.slice (some ⟨b, off, none⟩) ops.length cap)) (hBf : W.cell? ⟨Bf, 0, none⟩ = some (.int .i64 fr)) (h0 : J [] W) :
    CallsIn F n Tryz.prog 81 #[.func (.yield l) #[] #[], .pointer (some ⟨Bg, 0, none⟩), .pointer (some ⟨Bf, 0, none⟩)] W fun e W' => (∃ v, e = .returned v) ∧
      ((∃ ys, ys = usesL ops fr ∧ J ys W') ∨ (∃ pre, pre <+: usesL ops fr ∧ Jx pre W')) := by
  obtain ⟨m, hm⟩ : ∃ m, m = ops.length := ⟨_, rfl⟩
  rw [← hm] at hBg
  have hml := hx.len
  rw [← hm] at hml
  replace hm := Lib.hid hm
  refine callsIn_of_wp Tryz.func81 rfl h21 ?_ hro
  simp only [Tryz.ntmps81, List.size_toArray, List.length_cons, List.length_nil, Nat.reduceAdd, Nat.reduceSub, Array.replicate_succ, Array.replicate_zero, List.push_toArray, List.append_toArray, List.nil_append, List.cons_append]
  gi_wp2
  gi_loopw [11] (fun i wr => ∃ ii : Nat, ii ≤ m ∧ i = .int .i64 ii ∧ J (usesK ops fr ii) wr ∧ KeepS S W wr) (fun i _ => m - (intOf i).toNat)
  case atStart => exact ⟨0, Nat.zero_le _, rfl, by simpa [usesK] using h0, KeepS.refl _ _⟩
  case round =>
    obtain ⟨ii, hi, rfl, hJs, hk⟩ := hrel
    by_cases hlt : ii < m
    · have hix : ii < ops.length := by rw [← hm.out]; exact hlt
      obtain ⟨x, hxx⟩ : ∃ x, ops[ii] = x := ⟨_, rfl⟩
      have hbel := hk.below hS
      obtain ⟨ao1, cap1, e0, e1, e2, e3, e4, e5, e6, _, hin, _⟩ := ROp.at (imp_ops hx hbel) hix hxx
      replace hxx := Lib.hid hxx
      obtain ⟨il, hil⟩ : ∃ il, il = x.fIn.length := ⟨_, rfl⟩
      rw [← hil] at e1
      have hill := hin.len
      rw [← hil] at hill
      replace hil := Lib.hid hil
      have hb3 : b < wr.heap.size := by have := hSs b (hS b hb); have := hk.size; omega
      gi_wp2
      gi_loopw [19] (fun k wx => ∃ kk : Nat, kk ≤ il ∧ k = .int .i64 kk ∧ J (usesK ops fr ii ++ insK ii x.fIn fr kk) wx ∧ KeepS S W wx) (fun k _ => il - (intOf k).toNat)
      case atStart =>
        refine ⟨0, Nat.zero_le _, rfl, ?_, hk.alloc (fun i hi => Nat.lt_of_lt_of_le (hSs i hi) hk.size) _⟩
        rw [show insK ii x.fIn fr 0 = [] from rfl, List.append_nil]
        exact hJ _ _ _ none hJs (World.grownBy_alloc wr _ none) (by simp)
      case round =>
        clear hJs e0 e1 e2 e3 e4 e5 e6
        obtain ⟨kk, hkk, rfl, hJk, hkx⟩ := hrel
        have hsz : wr.heap.size ≤ wr.heap.size := Nat.le_refl _
        by_cases hkl : kk < il
        · have hklx : kk < x.fIn.length := by rw [← hil.out]; exact hkl
          obtain ⟨b2, off2, rfl, hb2, _⟩ := hin.addr (by omega)
          have hbx : b2 < B := hb2
          obtain ⟨v, hv⟩ : ∃ v, v = x.fIn[kk] := ⟨_, rfl⟩
          have hcv : W.cell? ⟨b2, off2 + kk, none⟩ = some (.int .i64 v) := by
            have hc := (hin.get kk hklx)
            obtain ⟨cs, _, h6, rfl, _⟩ := hc
            have h7 := h6 0 (by omega)
            rw [Nat.mul_one, Nat.add_zero] at h7
            rw [← (hk.cell (b := b2) (off := off2 + kk) (hS b2 hb2)), h7, hv]
            rfl
          have hcx := (hkx.cell (b := b2) (off := off2 + kk) (hS b2 hb2)).trans hcv
          have hfx := (hkx.cell (b := Bf) (off := 0) hSf).trans hBf
          have hsucc := insK_succ ii x.fIn fr kk
          rw [List.getElem?_eq_getElem hklx, Option.getD_some, ← hv] at hsucc
          replace hv := Lib.hid hv
          by_cases hvf : v = fr
          · have hpx : usesK ops fr ii ++ insK ii x.fIn fr (kk + 1) <+: usesL ops fr := by
              refine List.IsPrefix.trans ?_ (usesK_prefix ops fr (show ii + 1 ≤ ops.length by omega) (Nat.le_refl _))
              rw [usesK_succ ops fr ii x (by rw [List.getElem?_eq_getElem hix, hxx.out])]
              exact (List.prefix_append_right_inj _).2 (insK_prefix ii x.fIn fr (by omega))
            have hs2 : insK ii x.fIn fr (kk + 1) = insK ii x.fIn fr kk ++ [(ii, kk)] := by rw [hsucc, hvf]; simp
            rw [hs2] at hpx
            rw [← List.append_assoc] at hpx
            obtain ⟨fn, tmps, assign, body, hy, hR⟩ := hY _ (ii, kk) _ hJk hpx
            dsimp only at hy
            rw [hvf] at hcx
            gi_wp2
            refine hR.mono ?_
            rintro e W3 (⟨rfl, hJ3, hk3⟩ | ⟨rfl, hJx3⟩)
            · gi_wp2
              go_roundw
              case rel => exact ⟨kk + 1, by omega, by go_num, by rw [hs2, ← List.append_assoc]; exact hJ3, hkx.trans hk3⟩
              case measure => simp [intOf]; omega
            · gi_wp2
              refine bodyPost_ret (results_none rfl _ _ _) rfl ?_
              exact ⟨⟨_, rfl⟩, .inr ⟨_, hpx, hJx3⟩⟩
          · have hvf2 : (v == fr) = false := by simpa using hvf
            gi_wp2
            refine ⟨fun _ h => (by cases h), ?_⟩
            gi_wp2
            go_roundw
            case rel => exact ⟨kk + 1, by omega, by go_num, by rw [hsucc, hvf2]; simpa using hJk, hkx⟩
            case measure => simp [intOf]; omega
        · obtain rfl : kk = il := by omega
          gi_wp2
          go_roundw
          case rel => exact ⟨ii + 1, by omega, by go_num, by rw [usesK_succ ops fr ii x (by rw [List.getElem?_eq_getElem hix, hxx.out]), ← hil.out]; exact hJk, hkx⟩
          case measure => simp [intOf]; omega
    · obtain rfl : ii = m := by omega
      gi_wp2
      go_end0
      exact ⟨⟨_, rfl⟩, .inl ⟨_, rfl, by rw [usesL, ← hm.out]; exact hJs⟩⟩

set_option maxRecDepth 100000 in
set_option maxHeartbeats 1000000 in
theorem uses1_nil_in (F : Fence) (n : Nat) (h21 : F.fn 81) (hro : F.round = none) (l Bg Bf : Nat) (ao : Option Addr) (cap : Nat) (J : List (Nat × Nat) → World → Prop) (W : World)
    (hBg : W.cell? ⟨Bg, 0, none⟩ = some (.slice ao 0 cap)) (h0 : J [] W) :
    CallsIn F n Tryz.prog 81 #[.func (.yield l) #[] #[], .pointer (some ⟨Bg, 0, none⟩), .pointer (some ⟨Bf, 0, none⟩)] W fun e W' => (∃ v, e = .returned v) ∧ J [] W' := by
  refine callsIn_of_wp Tryz.func81 rfl h21 ?_ hro
  simp only [Tryz.ntmps81, List.size_toArray, List.length_cons, List.length_nil, Nat.reduceAdd, Nat.reduceSub, Array.replicate_succ, Array.replicate_zero, List.push_toArray, List.append_toArray, List.nil_append, List.cons_append]
  gi_wp2
  gi_loopw [11] (fun i wr => i = .int .i64 0 ∧ J [] wr) (fun _ _ => 0)
  case atStart => exact ⟨rfl, h0⟩
  case round =>
    obtain ⟨rfl, hJs⟩ := hrel
    gi_wp2
    go_end0
    exact ⟨⟨_, rfl⟩, hJs⟩

/-- A use of an operator. -/
abbrev UseOf (ops : List TOp) (fr : Int) : Type := { x : Nat × Nat // x ∈ usesL ops fr }
theorem uses_stops (F : Fence) (n : Nat) (h21 : F.fn 81) (hro : F.round = none) (hn : 1 ≤ n) (Bg Bf B : Nat) (S : Nat → Prop) (ops : List TOp) (ao : Option Addr) (cap : Nat) (fr : Int) (w : World)
    (hS : ∀ i, i < B → S i) (hSf : S Bf) (hSs : ∀ i, S i → i < w.heap.size) (hBl : Bg < w.heap.size)
    (hx : SlA B 7 (ROp B) w ao cap ops) (hBg : w.cell? ⟨Bg, 0, none⟩ = some (.slice ao ops.length cap)) (hBf : w.cell? ⟨Bf, 0, none⟩ = some (.int .i64 fr)) :
    SeqStopsK F n Tryz.prog 81 #[.pointer (some ⟨Bg, 0, none⟩), .pointer (some ⟨Bf, 0, none⟩)] (fun x : UseOf ops fr => #[Value.int .i64 (x.1.1 : Nat), Value.int .i64 (x.1.2 : Nat)]) (KeepS S)
      (fun ys => ys.map (·.1) = usesL ops fr) (fun pre => pre.map (·.1) <+: usesL ops fr) (usesL ops fr).length w := fun l J Jx W hW hJ _ hY h0 => by
  have hfl := hSs Bf hSf
  have hBg' := (hW.cell (p := ⟨Bg, 0, none⟩) hBl).trans hBg
  have hBf' := (hW.cell (p := ⟨Bf, 0, none⟩) hfl).trans hBf
  have hBle : B ≤ w.heap.size := by
    cases B with
    | zero => omega
    | succ k => have := hSs k (hS k (by omega)); omega
  have hx' := imp_ops hx (hW.mono hBle)
  have hJ' : AbidesFrom W.heap.size (fun (pre : List (Nat × Nat)) V => ∃ pre' : List (UseOf ops fr), pre'.map (·.1) = pre ∧ J pre' V) := fun s A C row ⟨pre', h1, h2⟩ hg hr => ⟨pre', h1, hJ _ _ _ _ h2 hg hr⟩
  by_cases hne : 0 < ops.length
  · obtain ⟨b, off, rfl, hb, _⟩ := hx'.addr hne
    refine (uses1_in F n h21 hro hn l Bg Bf B S ops b off cap fr (fun pre V => ∃ pre' : List (UseOf ops fr), pre'.map (·.1) = pre ∧ J pre' V) (fun pre V => ∃ pre' : List (UseOf ops fr), pre'.map (·.1) = pre ∧ Jx pre' V) W hS hSf (fun i hi => Nat.lt_of_lt_of_le (hSs i hi) hW.size) hJ' ?_ hx' hb hBg' hBf' ⟨[], rfl, h0⟩).mono ?_
    · rintro pre x W1 ⟨pre', rfl, hj⟩ hpx
      have hm : x ∈ usesL ops fr := hpx.subset (by simp)
      obtain ⟨fn, tmps, assign, body, hy, hR⟩ := hY pre' ⟨x, hm⟩ W1 hj (by have := hpx.length_le; simp at this; omega)
      refine ⟨fn, tmps, assign, body, hy, hR.mono ?_⟩
      rintro e W' (⟨he, h1, h2⟩ | ⟨he, h1⟩)
      · exact .inl ⟨he, ⟨_, by simp, h1⟩, h2⟩
      · exact .inr ⟨he, _, by simp, h1⟩
    · rintro e W' ⟨hv, (⟨ys, rfl, ys', h1, h2⟩ | ⟨pre, h1, pre', rfl, h3⟩)⟩
      · exact ⟨hv, .inl ⟨ys', h1, h2⟩⟩
      · exact ⟨hv, .inr ⟨pre', h1, h3⟩⟩
  · obtain rfl : ops = [] := List.length_eq_zero_iff.1 (by omega)
    exact (uses1_nil_in F n h21 hro l Bg Bf ao cap (fun pre V => ∃ pre' : List (UseOf [] fr), pre'.map (·.1) = pre ∧ J pre' V) W hBg' ⟨[], rfl, h0⟩).mono fun e W' ⟨he, ys', h1, h2⟩ => ⟨he, .inl ⟨ys', h1, h2⟩⟩

set_option maxHeartbeats 1000000 in
theorem uses_in (F : Fence) (n : Nat) (h12 : F.fn 68) (hro : F.round = none) (ao : Option Addr) (len cap : Nat) (fr : Int) (w : World) :
    CallsIn F n Tryz.prog 68 #[.agg #[.slice ao len cap], .int .i64 fr] w fun e w' => e = .returned (.func (.func 81) #[] #[.pointer (some ⟨w.heap.size, 0, none⟩), .pointer (some ⟨w.heap.size + 1, 0, none⟩)]) ∧
      w' = (w.alloc (.cells #[.slice ao len cap] 24)).alloc (.cells #[.int .i64 fr] 3) := by
  refine callsIn_of_wp Tryz.func68 rfl h12 ?_ hro
  simp only [Tryz.ntmps68, List.size_toArray, List.length_cons, List.length_nil, Nat.reduceAdd, Nat.reduceSub, Array.replicate_succ, Array.replicate_zero, List.push_toArray, List.append_toArray, List.nil_append, List.cons_append]
  gi_wp2
  go_ret
  exact ⟨rfl, rfl⟩
end Go.Proofs.YtjmbafcpbagpdaaGreat

/- Graph: what leads where: plain Lean. -/
namespace Go.Proofs.YtjmbafcpbagpdaaGreat
set_option linter.unusedVariables false

/-- a is an input of b. -/
def EdgeG (ops : List TOp) (a b : Nat) : Prop := ∃ o, ops[b]? = some o ∧ (a : Int) ∈ o.fIn
inductive PathG (ops : List TOp) : Nat → Nat → Prop
  | refl (a : Nat) : PathG ops a a
  | step {a b c : Nat} : EdgeG ops a b → PathG ops b c → PathG ops a c
/-- A right graph: the inputs lie ahead. -/
structure OkG (ops : List TOp) : Prop where
  pos : 1 ≤ ops.length
  most : ops.length ≤ 16
  ins : ∀ (b : Nat) (o : TOp), ops[b]? = some o → ∀ k ∈ o.fIn, 0 ≤ k ∧ k < (b : Int)

theorem badFrom_some {n : Nat} : ∀ (l : List TOp) (i : Nat), badFrom n l i = none → ∀ k (h : k < l.length), okB l[k] (i + k) n = true
  | [], _, _, k, h => absurd h (Nat.not_lt_zero _)
  | x :: r, i, hb, k, h => by
    unfold badFrom at hb
    by_cases hx : okB x i n = true
    · rw [if_pos hx] at hb
      cases k with
      | zero => simpa using hx
      | succ k =>
        have := badFrom_some r (i + 1) hb k (by simpa using h)
        simpa [Nat.add_assoc, Nat.add_comm 1 k] using this
    · rw [if_neg hx] at hb; cases hb
theorem okG_of_check {ops : List TOp} (h : (gcheck ops).2 = 0) : OkG ops := by
  unfold gcheck at h
  by_cases hl : ops.length < 1 ∨ 16 < ops.length
  · rw [if_pos hl] at h; simp at h
  · rw [if_neg hl] at h
    cases hb : badFrom ops.length ops 0 with
    | some i => rw [hb] at h; simp at h
    | none =>
      refine ⟨by omega, by omega, fun b o ho k hk => ?_⟩
      obtain ⟨hbl, rfl⟩ := List.getElem?_eq_some_iff.1 ho
      have := badFrom_some ops 0 hb b hbl
      unfold okB insB at this
      simp only [Nat.zero_add, Bool.and_eq_true, List.all_eq_true, decide_eq_true_eq] at this
      exact this.2 k hk
theorem EdgeG.lt {ops : List TOp} (hg : OkG ops) {a b : Nat} (h : EdgeG ops a b) : a < b ∧ b < ops.length := by
  obtain ⟨o, ho, hm⟩ := h
  have := hg.ins b o ho a hm
  exact ⟨by omega, (List.getElem?_eq_some_iff.1 ho).1⟩
theorem PathG.trans {ops : List TOp} {a b c : Nat} (h : PathG ops a b) (k : PathG ops b c) : PathG ops a c := by
  induction h with
  | refl => exact k
  | step e _ ih => exact .step e (ih k)
theorem PathG.le {ops : List TOp} (hg : OkG ops) {a b : Nat} (h : PathG ops a b) : a ≤ b := by
  induction h with
  | refl => exact Nat.le_refl _
  | step e _ ih => have := e.lt hg; omega
theorem pathG_head {ops : List TOp} (a c : Nat) : PathG ops a c ↔ a = c ∨ ∃ b, EdgeG ops a b ∧ PathG ops b c := by
  constructor
  · rintro (_ | ⟨e, h⟩)
    · exact .inl rfl
    · exact .inr ⟨_, e, h⟩
  · rintro (rfl | ⟨b, e, h⟩)
    · exact .refl _
    · exact .step e h
theorem pathG_tail {ops : List TOp} (a c : Nat) : PathG ops a c ↔ a = c ∨ ∃ b, PathG ops a b ∧ EdgeG ops b c := by
  constructor
  · intro h
    induction h with
    | refl => exact .inl rfl
    | step e h ih =>
      rcases ih with rfl | ⟨d, h1, h2⟩
      · exact .inr ⟨_, .refl _, e⟩
      · exact .inr ⟨d, .step e h1, h2⟩
  · rintro (rfl | ⟨b, h, e⟩)
    · exact .refl _
    · exact h.trans (.step e (.refl _))

open Classical in
/-- Does a lead to c? -/
noncomputable def rch (ops : List TOp) (a c : Nat) : Bool := decide (PathG ops a c)
theorem rch_iff {ops : List TOp} {a c : Nat} : rch ops a c = true ↔ PathG ops a c := by simp [rch]

theorem mem_insK {i j k : Nat} {ins : List Int} {fr : Int} {m : Nat} : (i, j) ∈ insK k ins fr m ↔ i = k ∧ j < m ∧ ins[j]?.getD 0 = fr := by
  unfold insK
  simp only [List.mem_map, List.mem_filter, List.mem_range, beq_iff_eq, Prod.mk.injEq]
  constructor
  · rintro ⟨x, ⟨h1, h2⟩, rfl, rfl⟩; exact ⟨rfl, h1, h2⟩
  · rintro ⟨rfl, h1, h2⟩; exact ⟨j, ⟨h1, h2⟩, rfl, rfl⟩
theorem mem_usesK {i j m : Nat} {ops : List TOp} {fr : Int} (hm : m ≤ ops.length) : (i, j) ∈ usesK ops fr m ↔ i < m ∧ ∃ o, ops[i]? = some o ∧ o.fIn[j]? = some fr := by
  unfold usesK
  rw [List.mem_flatMap]
  constructor
  · rintro ⟨k, hk, h⟩
    have hk := List.mem_range.1 hk
    obtain ⟨rfl, h1, h2⟩ := mem_insK.1 h
    obtain ⟨o, ho⟩ : ∃ o, ops[i]? = some o := ⟨_, List.getElem?_eq_getElem (by omega)⟩
    rw [ho] at h1 h2
    simp only [Option.map_some, Option.getD_some] at h1 h2
    exact ⟨hk, o, ho, by rw [List.getElem?_eq_getElem h1] at h2 ⊢; simpa using h2⟩
  · rintro ⟨hi, o, ho, h⟩
    refine ⟨i, List.mem_range.2 hi, ?_⟩
    rw [ho]
    simp only [Option.map_some, Option.getD_some]
    exact mem_insK.2 ⟨rfl, (List.getElem?_eq_some_iff.1 h).1, by rw [h]; rfl⟩
theorem mem_usesL {i j : Nat} {ops : List TOp} {fr : Int} : (i, j) ∈ usesL ops fr ↔ ∃ o, ops[i]? = some o ∧ o.fIn[j]? = some fr := by
  unfold usesL
  rw [mem_usesK (Nat.le_refl _)]
  constructor
  · rintro ⟨_, h⟩; exact h
  · rintro ⟨o, ho, h⟩; exact ⟨(List.getElem?_eq_some_iff.1 ho).1, o, ho, h⟩
theorem edge_uses {ops : List TOp} {a b : Nat} : EdgeG ops a b ↔ ∃ x ∈ usesL ops a, x.1 = b := by
  constructor
  · rintro ⟨o, ho, hm⟩
    obtain ⟨j, hj⟩ := List.mem_iff_getElem?.1 hm
    exact ⟨(b, j), mem_usesL.2 ⟨o, ho, hj⟩, rfl⟩
  · rintro ⟨⟨i, j⟩, h, rfl⟩
    obtain ⟨o, ho, h2⟩ := mem_usesL.1 h
    exact ⟨o, ho, List.mem_iff_getElem?.2 ⟨j, h2⟩⟩

/-- What is known of row a when the uses in pre have come. -/
noncomputable def rowTo (ops : List TOp) (a : Nat) (pre : List (Nat × Nat)) (c : Nat) : Bool := a == c || pre.any fun x => rch ops x.1 c
theorem rowTo_all (ops : List TOp) (a c : Nat) : rowTo ops a (usesL ops a) c = rch ops a c := by
  rw [Bool.eq_iff_iff, rch_iff, pathG_head]
  unfold rowTo
  simp only [Bool.or_eq_true, beq_iff_eq, List.any_eq_true, rch_iff]
  refine or_congr Iff.rfl ⟨?_, ?_⟩
  · rintro ⟨x, hx, hp⟩; exact ⟨x.1, edge_uses.2 ⟨x, hx, rfl⟩, hp⟩
  · rintro ⟨b, e, hp⟩
    obtain ⟨x, hx, rfl⟩ := edge_uses.1 e
    exact ⟨x, hx, hp⟩
theorem rowTo_snoc (ops : List TOp) (a : Nat) (pre : List (Nat × Nat)) (x : Nat × Nat) (c : Nat) : rowTo ops a (pre ++ [x]) c = (rowTo ops a pre c || rch ops x.1 c) := by
  unfold rowTo
  simp [List.any_append, Bool.or_assoc]
theorem uses_lt {ops : List TOp} (hg : OkG ops) {a : Nat} {x : Nat × Nat} (h : x ∈ usesL ops a) : a < x.1 ∧ x.1 < ops.length :=
  (edge_uses.2 ⟨x, h, rfl⟩ : EdgeG ops a x.1).lt hg
end Go.Proofs.YtjmbafcpbagpdaaGreat

/- Graph: the rows of what leads where, in memory. -/
namespace Go.Proofs.YtjmbafcpbagpdaaGreat
open Go.RowKit
set_option linter.unusedVariables false

def rowV (n : Nat) (g : Nat → Bool) : Array Value := ((List.range n).map fun c => Value.bool (g c)).toArray
theorem rowV_size (n : Nat) (g : Nat → Bool) : (rowV n g).size = n := by simp [rowV]
theorem rowV_at {n c : Nat} (g : Nat → Bool) (h : c < n) : (rowV n g)[c]? = some (.bool (g c)) := by simp [rowV, h]
theorem rowV_set {n c : Nat} (g : Nat → Bool) (b : Bool) (h : c < n) : (rowV n g).setIfInBounds c (.bool b) = rowV n (fun d => if d = c then b else g d) := by
  apply Array.ext_getElem?
  intro i
  rw [Array.getElem?_setIfInBounds]
  by_cases hi : i < n
  · rw [rowV_at _ hi]
    by_cases hc : c = i
    · subst hc
      rw [if_pos rfl, if_pos (by rw [rowV_size]; exact h), rowV_at _ h, if_pos rfl]
    · rw [if_neg hc, rowV_at _ hi, if_neg (Ne.symm hc)]
  · have h1 : c ≠ i := by omega
    rw [if_neg h1, Array.getElem?_eq_none (by rw [rowV_size]; omega), Array.getElem?_eq_none (by rw [rowV_size]; omega)]
theorem rowV_congr {n : Nat} {g k : Nat → Bool} (h : ∀ c, c < n → g c = k c) : rowV n g = rowV n k := by
  unfold rowV
  congr 1
  exact List.map_congr_left fun c hc => by rw [h c (List.mem_range.1 hc)]
theorem rowV_false (n : Nat) : rowV n (fun _ => false) = Array.replicate n (.bool false) := by
  apply Array.ext_getElem?
  intro i
  by_cases hi : i < n
  · rw [rowV_at _ hi]; simp [hi]
  · rw [Array.getElem?_eq_none (by rw [rowV_size]; omega), Array.getElem?_eq_none (by simp; omega)]

theorem madeCells_one (z : Value) (n : Nat) : madeCells #[z] n = Array.replicate n z := by
  apply Array.ext_getElem?
  intro i
  simp [madeCells]
  by_cases hi : i < n
  · simp [hi, Nat.mod_one]
  · simp [hi]

def hdrV (n i : Nat) (rs : List Nat) : Array Value := (List.replicate i (Value.slice none 0 0) ++ rs.map fun r => Value.slice (some ⟨r, 0, none⟩) n n).toArray
theorem hdrV_at {n i j : Nat} {rs : List Nat} (hj : j < rs.length) : (hdrV n i rs)[i + j]? = some (.slice (some ⟨rs[j], 0, none⟩) n n) := by
  unfold hdrV
  simp [hj]
theorem hdrV_set {n a : Nat} {rs : List Nat} (r : Nat) : (hdrV n (a + 1) rs).setIfInBounds a (.slice (some ⟨r, 0, none⟩) n n) = hdrV n a (r :: rs) := by
  unfold hdrV
  simp only [List.setIfInBounds_toArray]
  congr 1
  rw [List.replicate_succ']
  simp [List.append_assoc]

/-- Rows i.. are there, each a block of its own; the header names them. -/
structure RPart (w : World) (base hb n i : Nat) (rs : List Nat) (f : Nat → Nat → Bool) : Prop where
  hdr : Blk w hb (hdrV n i rs) 106
  len : i + rs.length = n
  hbase : base ≤ hb
  rows : ∀ (j : Nat) (h : j < rs.length), base ≤ rs[j] ∧ rs[j] ≠ hb ∧ Blk w rs[j] (rowV n (f (i + j))) 4
  nodup : rs.Nodup

namespace RPart
variable {w w' : World} {base hb n i : Nat} {rs : List Nat} {f : Nat → Nat → Bool}
theorem congr (h : RPart w base hb n i rs f) {g : Nat → Nat → Bool} (hfg : ∀ x c, i ≤ x → x < n → c < n → f x c = g x c) : RPart w base hb n i rs g :=
  ⟨h.hdr, h.len, h.hbase, fun j hj => by
    obtain ⟨h1, h2, h3⟩ := h.rows j hj
    have := h.len
    exact ⟨h1, h2, by rw [rowV_congr (fun c hc => (hfg (i + j) c (by omega) (by omega) hc).symm)]; exact h3⟩, h.nodup⟩
theorem chg {S : Nat → Prop} (h : RPart w base hb n i rs f) (k : Chg S w w') (hS : ∀ b, base ≤ b → b < w.heap.size → b = hb ∨ b ∈ rs → ¬ S b) : RPart w' base hb n i rs f :=
  ⟨h.hdr.chg k (hS _ h.hbase h.hdr.lt (.inl rfl)), h.len, h.hbase, fun j hj => by
    obtain ⟨h1, h2, h3⟩ := h.rows j hj
    exact ⟨h1, h2, h3.chg k (hS _ h1 h3.lt (.inr (List.getElem_mem hj)))⟩, h.nodup⟩
theorem below {B : Nat} (h : RPart w base hb n i rs f) (k : Below B w w') (hB : w.heap.size ≤ B) : RPart w' base hb n i rs f :=
  h.chg (Chg.of_below k) (fun b _ hb _ hs => by omega)
theorem hcell (h : RPart w base hb n i rs f) {x : Nat} (hx : i ≤ x) (hn : x < n) : ∃ r, rs[x - i]? = some r ∧ w.cell? ⟨hb, x, none⟩ = some (.slice (some ⟨r, 0, none⟩) n n) := by
  have hl := h.len
  have hj : x - i < rs.length := by omega
  refine ⟨rs[x - i], List.getElem?_eq_getElem hj, ?_⟩
  rw [h.hdr.cell x]
  have := hdrV_at (n := n) (i := i) hj
  rwa [show i + (x - i) = x by omega] at this
theorem rcell (h : RPart w base hb n i rs f) {x c r : Nat} (hx : i ≤ x) (hr : rs[x - i]? = some r) (hc : c < n) : w.cell? ⟨r, c, none⟩ = some (.bool (f x c)) := by
  obtain ⟨hj, rfl⟩ := List.getElem?_eq_some_iff.1 hr
  obtain ⟨_, _, h3⟩ := h.rows _ hj
  rw [h3.cell c, rowV_at _ hc, show i + (x - i) = x by omega]
theorem rblk (h : RPart w base hb n i rs f) {x r : Nat} (hx : i ≤ x) (hr : rs[x - i]? = some r) : Blk w r (rowV n (f x)) 4 ∧ base ≤ r ∧ r ≠ hb := by
  obtain ⟨hj, rfl⟩ := List.getElem?_eq_some_iff.1 hr
  obtain ⟨h1, h2, h3⟩ := h.rows _ hj
  rw [show i + (x - i) = x by omega] at h3
  exact ⟨h3, h1, h2⟩
/-- One cell of a row is set. -/
theorem set (h : RPart w base hb n i rs f) {x c r : Nat} (hx : i ≤ x) (hr : rs[x - i]? = some r) (hc : c < n) (b : Bool) : RPart (w.setCell ⟨r, c, none⟩ (.bool b)) base hb n i rs (fun y d => if y = x ∧ d = c then b else f y d) := by
  obtain ⟨hj, hrj⟩ := List.getElem?_eq_some_iff.1 hr
  refine ⟨h.hdr.set_other (p := ⟨r, c, none⟩) (Ne.symm (h.rblk hx hr).2.2) _, h.len, h.hbase, fun j hj' => ?_, h.nodup⟩
  obtain ⟨h1, h2, h3⟩ := h.rows j hj'
  refine ⟨h1, h2, ?_⟩
  by_cases hjx : j = x - i
  · subst hjx
    have h4 := h3.set c (.bool b)
    rw [rowV_set _ _ hc] at h4
    rw [hrj] at h4
    rw [hrj, rowV_congr (k := fun d => if d = c then b else f (i + (x - i)) d) (fun d hd => by simp [show i + (x - i) = x by omega])]
    exact h4
  · have hne : rs[j] ≠ r := by
      rw [← hrj]
      intro e
      exact hjx ((List.getElem_inj h.nodup).1 e)
    have h4 := h3.set_other (p := ⟨r, c, none⟩) hne (.bool b)
    rw [rowV_congr (k := f (i + j)) (fun d hd => by rw [if_neg (by omega)])]
    exact h4
/-- A new row comes ahead of the others. -/
theorem push (h : RPart w base hb n (i + 1) rs f) (hb' : base ≤ w.heap.size) : RPart ((w.alloc (.cells (Array.replicate n (.bool false)) 4)).setCell ⟨hb, i, none⟩ (.slice (some ⟨w.heap.size, 0, none⟩) n n)) base hb n i (w.heap.size :: rs) (fun y d => if y = i then false else f y d) := by
  have hlt : hb < w.heap.size := h.hdr.lt
  refine ⟨?_, by have := h.len; simp; omega, h.hbase, fun j hj => ?_, ?_⟩
  · have := (h.hdr.alloc (.cells (Array.replicate n (.bool false)) 4)).set i (.slice (some ⟨w.heap.size, 0, none⟩) n n)
    rwa [hdrV_set] at this
  · cases j with
    | zero =>
      simp only [List.getElem_cons_zero, Nat.add_zero]
      refine ⟨hb', by omega, ?_⟩
      rw [rowV_congr (k := fun _ => false) (fun d hd => by simp), rowV_false]
      exact (Blk.new w _ _).set_other (p := ⟨hb, i, none⟩) (by simp; omega) _
    | succ j =>
      simp only [List.getElem_cons_succ]
      obtain ⟨h1, h2, h3⟩ := h.rows j (by simpa using hj)
      refine ⟨h1, h2, ?_⟩
      rw [rowV_congr (k := f (i + 1 + j)) (fun d hd => by rw [if_neg (by omega), show i + (j + 1) = i + 1 + j by omega])]
      exact (h3.alloc _).set_other (p := ⟨hb, i, none⟩) h2 _
  · rw [List.nodup_cons]
    refine ⟨fun hm => ?_, h.nodup⟩
    obtain ⟨j, hj, e⟩ := List.getElem_of_mem hm
    have := (h.rows j hj).2.2.lt
    omega
end RPart

theorem RPart.base {w : World} {base base' hb n i : Nat} {rs : List Nat} {f : Nat → Nat → Bool} (h : RPart w base hb n i rs f) (hb' : base' ≤ base) : RPart w base' hb n i rs f :=
  ⟨h.hdr, h.len, Nat.le_trans hb' h.hbase, fun j hj => ⟨Nat.le_trans hb' (h.rows j hj).1, (h.rows j hj).2⟩, h.nodup⟩
theorem hdrV_nil {n a : Nat} {rs : List Nat} : (hdrV n (a + 1) rs)[a]? = some (.slice none 0 0) := by
  unfold hdrV
  simp [List.getElem?_append_left]
theorem blk_inj {w : World} {b : Nat} {cs ds : Array Value} {T U : TypeId} (h : Blk w b cs T) (k : Blk w b ds U) : cs = ds ∧ T = U := by
  unfold Blk at h k
  rw [h] at k
  cases k
  exact ⟨rfl, rfl⟩
theorem blk_ne {w : World} {b c : Nat} {cs ds : Array Value} {T U : TypeId} (h : Blk w b cs T) (k : Blk w c ds U) (hT : T ≠ U) : b ≠ c := fun e => by subst e; exact hT (blk_inj h k).2

theorem infoBool : (Tryz.prog.info? 4).map (fun i => (i.zero, i.size, i.bytes)) = some (some (.bool false), 1, 1) := by kernel_rfl
theorem infoBools : (Tryz.prog.info? 106).map (fun i => (i.zero, i.size, i.bytes)) = some (some (.slice none 0 0), 1, 24) := by kernel_rfl
theorem mk_bools (n : Nat) (hn : n ≤ 16) (w : World) : (Instr.makeSlice 106 (.int .i64 n) (.int .i64 n)).run Tryz.prog w = .ok (.slice (some ⟨w.heap.size, 0, none⟩) n n) (w.alloc (.cells (Array.replicate n (.bool false)) 4)) := by
  obtain ⟨i0, hi, hz0, hz1, hz2⟩ := info_parts infoBool
  have := run_make (P := Tryz.prog) w 106 4 i0 (.bool false) Tryz.underlying106 hi hz0 .i64 .i64 n n (by omega) (Int.le_refl _) (by rw [hz2]; omega) (by omega)
  rw [hz1, Int.toNat_natCast, Nat.mul_one, show Value.cells (.bool false) = #[.bool false] from rfl, madeCells_one] at this
  exact this
theorem mk_rows (n : Nat) (hn : n ≤ 16) (w : World) : (Instr.makeSlice 102 (.int .i64 n) (.int .i64 n)).run Tryz.prog w = .ok (.slice (some ⟨w.heap.size, 0, none⟩) n n) (w.alloc (.cells (Array.replicate n (.slice none 0 0)) 106)) := by
  obtain ⟨i0, hi, hz0, hz1, hz2⟩ := info_parts infoBools
  have := run_make (P := Tryz.prog) w 102 106 i0 (.slice none 0 0) Tryz.underlying102 hi hz0 .i64 .i64 n n (by omega) (Int.le_refl _) (by rw [hz2]; omega) (by omega)
  rw [hz1, Int.toNat_natCast, Nat.mul_one, show Value.cells (.slice none 0 0) = #[.slice none 0 0] from rfl, madeCells_one] at this
  exact this
theorem rpart_new (w : World) (n base : Nat) (f : Nat → Nat → Bool) (hb : base ≤ w.heap.size) : RPart (w.alloc (.cells (Array.replicate n (.slice none 0 0)) 106)) base w.heap.size n n [] f :=
  ⟨by have := Blk.new w (Array.replicate n (Value.slice none 0 0)) 106
      rw [show hdrV n n [] = Array.replicate n (.slice none 0 0) by unfold hdrV; simp]; exact this, by simp, hb, fun j hj => absurd hj (Nat.not_lt_zero _), List.nodup_nil⟩

/-- A slice of rows of bools, all new memory. -/
def RowsB (w : World) (base : Nat) (v : Value) (n : Nat) (f : Nat → Nat → Bool) : Prop := ∃ hb rs, v = .slice (some ⟨hb, 0, none⟩) n n ∧ RPart w base hb n 0 rs f
end Go.Proofs.YtjmbafcpbagpdaaGreat

/- Graph: the walk of Reaches. -/
namespace Go.Proofs.YtjmbafcpbagpdaaGreat
open Go.RowKit Go.Shelf
attribute [local go_sem] Oper.semAt_some
set_option linter.unusedVariables false

theorem reaches_bad (ops : List TOp) (cap : Nat) (ao : Option Addr) (w : World) (B : Nat) (hB : B ≤ w.heap.size) (hx : SlA B 7 (ROp B) w ao cap ops) (hbad : (gcheck ops).2 ≠ 0) :
    Calls Tryz.prog 48 #[.agg #[.slice ao ops.length cap]] w fun e w' => e = .returned (.slice none 0 0) ∧ Below w.heap.size w w' := by
  have hg := fun W hb => gcheck_all ops cap ao W B (Nat.le_trans hB (Below.size hb)) (imp_ops hx (hb.mono hB))
  obtain ⟨er, her⟩ : ∃ er, er = (gcheck ops).2 := ⟨_, rfl⟩
  rw [← her] at hbad hg
  have hne : ((er : Int) != 0) = true := by simpa using hbad
  obtain ⟨n, hn⟩ : ∃ n, n = ops.length := ⟨_, rfl⟩
  rw [← hn] at hg ⊢
  clear her hn hbad
  go_enter Tryz.func48, Tryz.ntmps48
  go_wp2_with fail
  refine (hg _ ((by repeat (first | exact Below.refl _ _ | assumption | refine below_drewN ?_ _ | refine Below.drew ?_ | (refine Below.setCell ?_ (by first | omega | (simp; omega) | simp) _) | (refine Below.alloc ?_ (by first | omega | (simp; omega) | simp) _) | (refine Below.trans ?_ (Below.mono (by assumption) (by first | omega | (simp; omega) | simp))))))).mono ?_
  rintro e w1 ⟨rfl, hb1⟩
  go_wp2_with fail
  go_ret
  exact ⟨rfl, (by repeat (first | exact Below.refl _ _ | assumption | refine below_drewN ?_ _ | refine Below.drew ?_ | (refine Below.setCell ?_ (by first | omega | (simp; omega) | simp) _) | (refine Below.alloc ?_ (by first | omega | (simp; omega) | simp) _) | (refine Below.trans ?_ (Below.mono (by assumption) (by first | omega | (simp; omega) | simp)))))⟩

/-- The state of Reaches in its loop: rows i.. are there. -/
structure RSt (w : World) (nb n cap : Nat) (ao : Option Addr) (wr : World) (i : Nat) (av : Int) (ab : Nat) (rs : List Nat) (f : Nat → Nat → Bool) : Prop where
  part : RPart wr nb (nb + 1) n i rs f
  abx : Blk wr ab #[.int .i64 av] 3
  nbx : Blk wr nb #[.int .i64 n] 3
  obx : Blk wr (nb + 1 + 1) #[.slice (some ⟨nb + 1, 0, none⟩) n n] 102
  gbx : Blk wr w.heap.size #[.slice ao n cap] 24
  bel : Below w.heap.size w wr
  abn : nb < ab
  nlt : w.heap.size < nb
namespace RSt
variable {w : World} {nb n cap : Nat} {ao : Option Addr} {wr wr' : World} {i : Nat} {av : Int} {ab : Nat} {rs : List Nat} {f g : Nat → Nat → Bool}
theorem chg {S : Nat → Prop} (h : RSt w nb n cap ao wr i av ab rs f) (k : Chg S wr wr') (hS : ∀ b, S b → b < wr.heap.size → w.heap.size ≤ b ∧ ∀ cs T, ¬ Blk wr b cs T) : RSt w nb n cap ao wr' i av ab rs f := by
  have hb : ∀ {b cs T}, Blk wr b cs T → ¬ S b := fun hb hs => (hS _ hs hb.lt).2 _ _ hb
  exact ⟨h.part.chg k (fun b _ _ hm => by
      rcases hm with rfl | hm
      · exact hb h.part.hdr
      · obtain ⟨j, hj, e⟩ := List.getElem_of_mem hm
        rw [← e]
        exact hb (h.part.rows j hj).2.2), h.abx.chg k (hb h.abx), h.nbx.chg k (hb h.nbx), h.obx.chg k (hb h.obx), h.gbx.chg k (hb h.gbx),
    h.bel.trans (k.below h.bel.size (fun b hbl hs => by
      rcases Nat.lt_or_ge b wr.heap.size with h1 | h1
      · have := (hS b hs h1).1; omega
      · have := h.bel.size; omega)), h.abn, h.nlt⟩
theorem congr (h : RSt w nb n cap ao wr i av ab rs f) (hfg : ∀ x c, i ≤ x → x < n → c < n → f x c = g x c) : RSt w nb n cap ao wr i av ab rs g := ⟨h.part.congr hfg, h.abx, h.nbx, h.obx, h.gbx, h.bel, h.abn, h.nlt⟩
theorem setRow (h : RSt w nb n cap ao wr i av ab rs f) {x c r : Nat} (hx : i ≤ x) (hr : rs[x - i]? = some r) (hc : c < n) (b : Bool) : RSt w nb n cap ao (wr.setCell ⟨r, c, none⟩ (.bool b)) i av ab rs (fun y d => if y = x ∧ d = c then b else f y d) := by
  obtain ⟨h1, h2, h3⟩ := h.part.rblk hx hr
  have hn := h.nlt
  exact ⟨h.part.set hx hr hc b, h.abx.set_other (blk_ne h.abx h1 (by decide)) _, h.nbx.set_other (blk_ne h.nbx h1 (by decide)) _, h.obx.set_other (blk_ne h.obx h1 (by decide)) _, h.gbx.set_other (blk_ne h.gbx h1 (by decide)) _,
    h.bel.setCell (p := ⟨r, c, none⟩) (by simp; omega) _, h.abn, h.nlt⟩
theorem own {β : Type} {B : Nat} (F : β → Nat → Nat → Bool) (hB : w.heap.size ≤ B) : OwnFrom B (fun s W => RSt w nb n cap ao W i av ab rs (F s)) := fun s X Y row hs hg hr =>
  hs.chg (Chg.of_grown hg) (fun b e _ => by
    obtain ⟨h1, o, h2, h3⟩ := hr b e
    refine ⟨by omega, fun cs T hb => ?_⟩
    unfold Blk at hb
    rw [hb] at h2
    cases h2
    cases h3)
end RSt
theorem ownFrom_marks {β : Type} {B B0 : Nat} {ds : List Deferred} (h : ∀ d ∈ ds, ∃ D, d = { target := .collected D, args := #[] } ∧ D < B) : OwnFrom B (fun (_ : β) W => Marks B0 ds W) := fun _ X Y row hs hg hr =>
  hs.kept fun D _ hD hm => by
    obtain ⟨D', e, hlt⟩ := h _ hm
    injection e with e1 e2
    injection e1 with e1
    refine (hg.block D (Array.getElem?_eq_some_iff.1 hD).1 (fun e => ?_)).trans hD
    have := (hr D e.symm).1
    omega
theorem keepS_put {S : Nat → Prop} {W : World} {l : Nat} (o' : Obj) (hl : ¬ S l) : KeepS S W (W.putObj l o') :=
  ⟨rfl, rfl, rfl, by simp [World.putObj], fun k hk => by
    have : k ≠ l := fun e => hl (e ▸ hk)
    simp [World.putObj, Ne.symm this]⟩
theorem keepS_chg {S T : Nat → Prop} {W W' : World} (h : Chg T W W') (hS : ∀ k, S k → k < W.heap.size ∧ ¬ T k) : KeepS S W W' :=
  ⟨h.os, h.tape, h.output, h.size, fun k hk => h.block k (hS k hk).1 (hS k hk).2⟩

def rMeas (a : Act) (W : World) : Nat := match a.tmps.getD 7 undef with
  | .pointer (some p) => (intOf ((W.cell? p).getD undef) + 1).toNat
  | _ => 0
def RRel (w : World) (nb n cap : Nat) (ao : Option Addr) (ops : List TOp) (us : List Value) (ds : List Deferred) (wr : World) : Prop :=
  ∃ (i ab : Nat) (rs : List Nat) (x24 x25 x26 x27 x28 x29 x30 x31 x32 x33 x34 x35 x36 x37 x38 x39 x40 x41 x71 : Value), us = [.pointer (some ⟨ab, 0, none⟩), x24, x25, x26, x27, x28, x29, x30, x31, x32, x33, x34, x35, x36, x37, x38, x39, x40, x41, x71] ∧ RSt w nb n cap ao wr i ((i : Int) - 1) ab rs (rch ops) ∧ Marks w.heap.size ds wr
theorem RSt.next {w : World} {nb n cap : Nat} {ao : Option Addr} {W : World} {i : Nat} {av av' : Int} {ab : Nat} {rs : List Nat} {f : Nat → Nat → Bool} (h : RSt w nb n cap ao W i av ab rs f) : RSt w nb n cap ao (W.alloc (.cells #[.int .i64 av'] 3)) i av' W.heap.size rs f :=
  ⟨h.part.chg ((Chg.refl (fun _ => False) W).alloc _) (fun _ _ _ _ h => h), Blk.new _ _ _, h.nbx.alloc _, h.obx.alloc _, h.gbx.alloc _, h.bel.alloc h.bel.size _, h.nbx.lt, h.nlt⟩

theorem blk_shut {B b : Nat} {w w' : World} {cs : Array Value} {T : TypeId} (h : Blk w b cs T) (hs : ShutM B w w') : Blk w' b cs T := by
  have := hs.same b h.noDef
  unfold Blk at *
  rw [this, h]
theorem RPart.shut {B : Nat} {w w' : World} {base hb n i : Nat} {rs : List Nat} {f : Nat → Nat → Bool} (h : RPart w base hb n i rs f) (hs : ShutM B w w') : RPart w' base hb n i rs f :=
  ⟨blk_shut h.hdr hs, h.len, h.hbase, fun j hj => ⟨(h.rows j hj).1, (h.rows j hj).2.1, blk_shut (h.rows j hj).2.2 hs⟩, h.nodup⟩

set_option maxRecDepth 100000 in
set_option maxHeartbeats 4000000 in
theorem reaches_ok (ops : List TOp) (cap : Nat) (ao : Option Addr) (w : World) (B : Nat) (hB : B ≤ w.heap.size) (hx : SlA B 7 (ROp B) w ao cap ops) (hok : (gcheck ops).2 = 0) :
    Calls Tryz.prog 48 #[.agg #[.slice ao ops.length cap]] w fun e w' => ∃ v, e = .returned v ∧ RowsB w' w.heap.size v ops.length (rch ops) ∧ Below w.heap.size w w' := by
  have hG := okG_of_check hok
  have hg := fun W hb => gcheck_all ops cap ao W B (Nat.le_trans hB (Below.size hb)) (imp_ops hx (hb.mono hB))
  rw [hok] at hg
  have hpos := hG.pos
  have hmost := hG.most
  obtain ⟨n, hn⟩ : ∃ n, n = ops.length := ⟨_, rfl⟩
  rw [← hn] at hg hpos hmost ⊢
  replace hn := Lib.hid hn
  replace hok := Lib.hid hok
  replace hG := Lib.hid hG
  have hmr := mk_rows n hmost
  have hmb := mk_bools n hmost
  refine calls_of_marks Tryz.func48 rfl ?_
  simp only [Tryz.ntmps48, List.size_toArray, List.length_cons, List.length_nil, Nat.reduceAdd, Nat.reduceSub, Array.replicate_succ, Array.replicate_zero, List.push_toArray, List.append_toArray, List.nil_append, List.cons_append]
  go_wp2_with fail
  refine (hg _ ((by repeat (first | exact Below.refl _ _ | assumption | refine below_drewN ?_ _ | refine Below.drew ?_ | (refine Below.setCell ?_ (by first | omega | (simp; omega) | simp) _) | (refine Below.alloc ?_ (by first | omega | (simp; omega) | simp) _) | (refine Below.trans ?_ (Below.mono (by assumption) (by first | omega | (simp; omega) | simp))))))).mono ?_
  rintro e w1 ⟨rfl, hb1⟩
  have hgb : Blk w1 w.heap.size #[.slice ao n cap] 24 := (Blk.new _ _ _).below hb1 (by simp)
  have hbel : Below w.heap.size w w1 := (by repeat (first | exact Below.refl _ _ | assumption | refine below_drewN ?_ _ | refine Below.drew ?_ | (refine Below.setCell ?_ (by first | omega | (simp; omega) | simp) _) | (refine Below.alloc ?_ (by first | omega | (simp; omega) | simp) _) | (refine Below.trans ?_ (Below.mono (by assumption) (by first | omega | (simp; omega) | simp)))))
  have cg := hgb.cellAt (i := 0) (v := .slice ao n cap) rfl
  clear hb1 hg
  have hN1 : w.heap.size < w1.heap.size := hgb.lt
  go_wp2_with fail
  refine Code.wp_world ?_
  intro w2 hw2
  have hL : RSt w w1.heap.size n cap ao w2 n ((n : Int) - 1) (w1.heap.size + 1 + 1 + 1) [] (rch ops) := by
    refine ⟨?_, ?_, ?_, ?_, ?_, ?_, by omega, hN1⟩
    · rw [hw2]
      have h1 := rpart_new (w1.alloc (.cells #[.int .i64 n] 3)) n w1.heap.size (rch ops) (by simp)
      rw [World.size_alloc] at h1
      exact (h1.chg ((Chg.refl (fun _ => False) _).alloc _) (by simp)).chg ((Chg.refl (fun _ => False) _).alloc _) (by simp)
    · rw [hw2]
      have := Blk.new (((w1.alloc (.cells #[.int .i64 n] 3)).alloc (.cells (Array.replicate n (.slice none 0 0)) 106)).alloc (.cells #[.slice (some ⟨w1.heap.size + 1, 0, none⟩) n n] 102)) #[.int .i64 ((n : Int) - 1)] 3
      simp only [World.size_alloc] at this
      exact this
    · rw [hw2]; exact (((Blk.new _ _ _).alloc _).alloc _).alloc _
    · rw [hw2]
      have := (Blk.new ((w1.alloc (.cells #[.int .i64 n] 3)).alloc (.cells (Array.replicate n (.slice none 0 0)) 106)) #[.slice (some ⟨w1.heap.size + 1, 0, none⟩) n n] 102).alloc (.cells #[.int .i64 ((n : Int) - 1)] 3)
      simp only [World.size_alloc] at this
      exact this
    · rw [hw2]; exact (((hgb.alloc _).alloc _).alloc _).alloc _
    · rw [hw2]; exact (by repeat (first | exact Below.refl _ _ | assumption | refine below_drewN ?_ _ | refine Below.drew ?_ | (refine Below.setCell ?_ (by first | omega | (simp; omega) | simp) _) | (refine Below.alloc ?_ (by first | omega | (simp; omega) | simp) _) | (refine Below.trans ?_ (Below.mono (by assumption) (by first | omega | (simp; omega) | simp)))))
  clear hw2 hgb hbel cg
  obtain ⟨nb, hnb⟩ : ∃ nb, nb = w1.heap.size := ⟨_, rfl⟩
  rw [← hnb] at hL hN1 ⊢
  clear hnb w1
  refine wp_loopM [7, 24, 25, 26, 27, 28, 29, 30, 31, 32, 33, 34, 35, 36, 37, 38, 39, 40, 41, 71]
    (RRel w nb n cap ao ops) rMeas ?start ?round
  case start => exact ⟨n, _, _, _, _, _, _, _, _, _, _, _, _, _, _, _, _, _, _, _, _, _, rfl, hL, trivial⟩
  case round =>
    clear hL
    rintro us ds wr ⟨i, ab, rs, x24, x25, x26, x27, x28, x29, x30, x31, x32, x33, x34, x35, x36, x37, x38, x39, x40, x41, x71, rfl, hL, hM⟩
    simp only [setAll, List.set_cons_succ, List.set_cons_zero]
    have ca := hL.abx.cellAt (i := 0) (v := .int .i64 ((i : Int) - 1)) rfl
    have cn := hL.nbx.cellAt (i := 0) (v := .int .i64 n) rfl
    have co := hL.obx.cellAt (i := 0) (v := .slice (some ⟨nb + 1, 0, none⟩) n n) rfl
    have cg := hL.gbx.cellAt (i := 0) (v := .slice ao n cap) rfl
    by_cases hi : 0 < i
    · obtain ⟨a, rfl⟩ : ∃ a, i = a + 1 := ⟨i - 1, by omega⟩
      have ha1 : ((a + 1 : Nat) : Int) - 1 = a := by omega
      rw [ha1] at ca
      have han : a < n := by have := hL.part.len; omega
      have hca := Lib.hid ca
      have hlt : wr.heap.size ≥ 0 := Nat.zero_le _
      have hax : Blk wr ab #[.int .i64 a] 3 := by have := hL.abx; rwa [ha1] at this
      go_wp2_with fail
      refine wp_region_calm (fun wx => wx.cell? ⟨nb + 1 + 1, 0, none⟩ = some (.slice (some ⟨nb + 1, 0, none⟩) n n) ∧ wx.cell? ⟨ab, 0, none⟩ = some (.int .i64 a) ∧ wx.cell? ⟨nb, 0, none⟩ = some (.int .i64 n)) 4 [3] (by kernel_rfl) (by kernel_rfl) (fun d _ _ _ _ h => by cases d <;> exact h) ⟨co, ca, cn⟩ (fun hHeld => ?_)
      simp only [List.take_succ_cons, List.take_zero, List.drop_succ_cons, List.drop_zero]
      iterate 3 (refine wpCalm_q0 rfl rfl ⟨?_, ?_, ?_⟩; rotate_left; (focus (intro wx hSx; (try dsimp only at hSx); go_simp; (try with_reducible rfl))); (simp only [Act.put, List.setIfInBounds_toArray, List.set_cons_zero, List.set_cons_succ]))
      refine wpCalm_s rfl rfl (fun K' hK => ?_)
      go_simp
      refine hK.out _ _ ⟨(Blk.drew (hL.obx.alloc _)).cellAt rfl, (Blk.drew (hax.alloc _)).cellAt rfl, (Blk.drew (hL.nbx.alloc _)).cellAt rfl⟩ ?_
      clear hK K'
      try simp only [Act.put, List.setIfInBounds_toArray, List.set_cons_zero, List.set_cons_succ]
      refine wpCalm_nil ?_
      have hpd : RPart wr.drew nb (nb + 1) n (a + 1) rs (rch ops) := hL.part.chg ((Chg.refl (fun _ => False) wr).drew) (fun _ _ _ _ h => h)
      have hbs : nb ≤ wr.heap.size := Nat.le_of_lt hL.nbx.lt
      have hfz := (Blk.drew (hL.part.hdr.alloc (.cells (Array.replicate n (.bool false)) 4))).frozen
      have hhc : ((wr.alloc (.cells (Array.replicate n (.bool false)) 4)).drew).cell? ⟨nb + 1, a, none⟩ = some (.slice none 0 0) := (Blk.drew (hL.part.hdr.alloc _)).cellAt hdrV_nil
      go_upto_region 10 with fail
      refine Code.wp_world ?_
      intro w5 hw5
      obtain ⟨r, hr⟩ : ∃ r, r = wr.heap.size := ⟨_, rfl⟩
      have hP5 := RPart.push hpd hbs
      have hc5 : Chg (fun k => k = nb + 1) wr w5 := by
        rw [hw5]; exact (((Chg.refl (fun k => k = nb + 1) wr).alloc _).setCell ⟨nb + 1, a, none⟩ _ (fun _ => rfl)).drew
      have h1b := hL.part.hdr
      have hS5 : RSt w nb n cap ao w5 a a ab (r :: rs) (fun y d => if y = a then false else rch ops y d) := by
        refine ⟨?_, hax.chg hc5 (fun e => blk_ne hax h1b (by decide) e), hL.nbx.chg hc5 (fun e => blk_ne hL.nbx h1b (by decide) e), hL.obx.chg hc5 (fun e => blk_ne hL.obx h1b (by decide) e), hL.gbx.chg hc5 (fun e => blk_ne hL.gbx h1b (by decide) e), hL.bel.trans (hc5.below hL.bel.size (fun k hk e => by have := hL.nlt; omega)), hL.abn, hL.nlt⟩
        rw [hw5, hr]
        exact hP5
      have hM5 : Marks w.heap.size ds w5 := hM.chg hc5 (fun k e x => by rw [e]; exact h1b.noDef x)
      rw [← hr]
      clear hw5 hP5 hc5 h1b hL hM hax hr hpd hbs hfz hhc hHeld ca co cn cg
      have co := hS5.obx.cellAt (i := 0) (v := .slice (some ⟨nb + 1, 0, none⟩) n n) rfl
      have ca := hS5.abx.cellAt (i := 0) (v := .int .i64 a) rfl
      have hr0 : (r :: rs)[a - a]? = some r := by rw [Nat.sub_self]; rfl
      have ch : w5.cell? ⟨nb + 1, a, none⟩ = some (.slice (some ⟨r, 0, none⟩) n n) := by
        obtain ⟨r', h1, h2⟩ := hS5.part.hcell (Nat.le_refl a) han
        rw [hr0] at h1
        cases h1
        exact h2
      have crr := hS5.part.rcell (Nat.le_refl a) hr0 han
      have crf := (hS5.part.rblk (Nat.le_refl a) hr0).1.frozen
      refine wp_region_quiet_tail 6 (by kernel_rfl) (by kernel_rfl) ?_
      simp only [List.take_succ_cons, List.take_zero, List.drop_succ_cons, List.drop_zero]
      repeat (go_big_quiet_step (fail))
      refine wpQuiet_nil ?_
      intro _ hw'
      obtain ⟨nq2, hw''⟩ := hw'
      subst hw''
      go_upto_region 11 with fail
      refine Code.wp_world ?_
      intro w6 hw6
      have hS6 : RSt w nb n cap ao w6 a a ab (r :: rs) (fun y d => if y = a then rowTo ops a (([] : List (UseOf ops a)).map (·.1)) d else rch ops y d) := by
        rw [hw6]
        refine RSt.congr (RSt.chg (hS5.setRow (Nat.le_refl a) hr0 han true) ((Chg.refl (fun _ => False) _).drewN nq2) (fun _ h => h.elim)) ?_
        intro x c h1 h2 h3
        by_cases hxa : x = a
        · subst hxa
          by_cases hca : c = x
          · subst hca; simp [rowTo]
          · simp [rowTo, hca, Ne.symm hca]
        · simp [hxa]
      have hM6 : Marks w.heap.size ds w6 := by
        rw [hw6]
        exact hM5.chg (((Chg.refl (fun k => k = r) w5).drewN nq2).setCell _ _ (fun _ => rfl)) (fun k e x => by rw [e]; exact (hS5.part.rblk (Nat.le_refl a) hr0).1.noDef x)
      clear hw6 hM5 hS5 co ca ch crr crf
      have cg := hS6.gbx.cellAt (i := 0) (v := .slice ao n cap) rfl
      have ca := hS6.abx.cellAt (i := 0) (v := .int .i64 a) rfl
      go_wp2_with fail
      refine (callsIn_wide.1 (uses_in Fence.wide 8 trivial rfl ao n cap a w6)).mono ?_
      rintro e w7 ⟨rfl, hw7⟩
      clear cg ca
      have hc7 : Chg (fun _ => False) w6 w7 := by rw [hw7]; exact ((Chg.refl _ _).alloc _).alloc _
      have hS7 := hS6.chg hc7 (fun _ h => h.elim)
      have hM7 := hM6.chg hc7 (fun _ h => h.elim)
      have hu1 : Blk w7 w6.heap.size #[.slice ao n cap] 24 := by rw [hw7]; exact (Blk.new _ _ _).alloc _
      have hu2 : Blk w7 (w6.heap.size + 1) #[.int .i64 a] 3 := by
        rw [hw7]
        have := Blk.new (w6.alloc (.cells #[.slice ao n cap] 24)) #[.int .i64 a] 3
        rwa [World.size_alloc] at this
      obtain ⟨ub, hub⟩ : ∃ ub, ub = w6.heap.size := ⟨_, rfl⟩
      have hub2 : r < ub := by rw [hub]; exact (hS6.part.rblk (Nat.le_refl a) hr0).1.lt
      have hub3 : w.heap.size ≤ ub := by rw [hub]; exact hS6.bel.size
      rw [← hub] at hu1 hu2 ⊢
      clear hw7 hc7 hS6 hM6 hub w5 w6
      go_upto_region 100 with fail
      obtain ⟨m, hm⟩ : ∃ m, m = w7.heap.size := ⟨_, rfl⟩
      have hxm := imp_ops hx (hS7.bel.mono hB)
      have hu1l := hu1.lt
      have hu2l := hu2.lt
      have c1 := hu1.cellAt (i := 0) (v := .slice ao n cap) rfl
      have c2 := hu2.cellAt (i := 0) (v := .int .i64 a) rfl
      rw [hn.out] at c1
      have hsq := uses_stops Fence.wide (8 - 1) trivial rfl (by omega) ub (ub + 1) B (fun i => i < w.heap.size ∨ i = ub + 1) ops ao cap (a : Int) w7
        (fun i hi => .inl (Nat.lt_of_lt_of_le hi hB)) (.inr rfl) (fun i hi => by have := hS7.bel.size; rcases hi with hi | rfl <;> omega) hu1l hxm c1 c2
      have hMl := hM7.lt
      refine (wpIn_wide (n := 8)).1 ?_
      refine wpIn_rangeFunc_ownG (α := UseOf ops a) rfl (by omega) (gf := 81) (lb := #[.pointer (some ⟨ub, 0, none⟩), .pointer (some ⟨ub + 1, 0, none⟩)]) rfl trivial (enters_of Tryz.func81 (by kernel_rfl) rfl)
        hsq KeepS.trans (fun W l o o' h1 h2 h3 h4 => keepS_put o' (by rintro (h | h) <;> omega)) (Below.refl _ _) (fun _ => rfl)
        (fun pre W => RSt w nb n cap ao W a a ab (r :: rs) (fun y d => if y = a then rowTo ops a (pre.map (·.1)) d else rch ops y d) ∧ Marks w.heap.size ds W ∧ w7.heap.size ≤ W.heap.size)
        (fun _ _ _ => False) (OwnFrom.and (RSt.own _ hS7.bel.size) (OwnFrom.and (ownFrom_marks hMl) (fun s X Y row hs hg hr => Nat.le_trans hs hg.size))) (fun _ _ _ _ _ h _ _ => h) ⟨hS7, hM7, Nat.le_refl _⟩ ?a1 ?assign ?body ?done ?stop
      case assign =>
        intro l x W K hK
        gi_wp2
        exact hK
      case stop =>
        rintro D c pre W _ _ h _
        exact h.elim
      case done =>
        rintro D ys W hD hys ⟨hS8, hM8, hz8⟩ hK
        have hM9 : Marks w.heap.size ({ target := .collected D, args := #[] } :: ds) W := ⟨D, rfl, by have := hS7.bel.size; omega, hK, fun e he => by
          obtain ⟨D', rfl, h1⟩ := hMl e he
          intro e
          injection e with e1 e2
          injection e1 with e1
          omega, hM8⟩
        have hS9 : RSt w nb n cap ao W a a ab (r :: rs) (rch ops) := hS8.congr (fun y d h1 h2 h3 => by
          by_cases hya : y = a
          · subst hya
            rw [if_pos rfl, hys, rowTo_all]
          · rw [if_neg hya])
        clear hS8 hM8 hS7 hM7 hMl hsq hxm hu1 hu2 c1 c2 hys hu1l hu2l hub2 hub3 hm hD hK hz8 w7
        have ca := hS9.abx.cellAt (i := 0) (v := .int .i64 a) rfl
        dsimp only
        go_wp2_with fail
        refine ⟨by exact ⟨[.pointer (some ⟨W.heap.size, 0, none⟩), _, _, _, _, _, _, _, _, _, _, _, _, _, _, _, _, _, _, _], _, (by simp only [setAll, List.set_cons_succ, List.set_cons_zero]; rfl), ⟨a, W.heap.size, r :: rs, _, _, _, _, _, _, _, _, _, _, _, _, _, _, _, _, _, _, _, rfl, hS9.next, hM9.chg ((Chg.refl (fun _ => False) W).alloc _) (fun _ h => h.elim)⟩⟩, ?mea⟩
        case mea =>
          simp [rMeas, hca.out, intOf]
      case body =>
        rintro l pre x W ⟨hS8, hM8, hz8⟩ _
        have cn := hS8.nbx.cellAt (i := 0) (v := .int .i64 n) rfl
        obtain ⟨⟨b, kx⟩, hxu⟩ := x
        have hbn := uses_lt hG.out hxu
        rw [← hn.out] at hbn
        dsimp only at hbn ⊢
        have hsz : w.heap.size ≤ r := by have := (hS8.part.rblk (Nat.le_refl a) hr0).2.1; omega
        gi_wp2
        gi_loopw [45] (fun c wx => ∃ k : Nat, k ≤ n ∧ c = .int .i64 k ∧ Chg (fun b => b = r) W wx ∧ RSt w nb n cap ao wx a a ab (r :: rs) (fun y d => if y = a then (if d < k then rowTo ops a (pre.map (·.1) ++ [(b, kx)]) d else rowTo ops a (pre.map (·.1)) d) else rch ops y d)) (fun c _ => n - (intOf c).toNat)
        case atStart => exact ⟨0, Nat.zero_le _, rfl, Chg.refl _ _, by simpa using hS8⟩
        case round =>
          obtain ⟨k, hk, rfl, hcx, hSx⟩ := hrel
          have hsw : w.heap.size < r := by have := (hS8.part.rblk (Nat.le_refl a) hr0).2.1; have := hS8.nlt; omega
          by_cases hkn : k < n
          · have co := hSx.obx.cellAt (i := 0) (v := .slice (some ⟨nb + 1, 0, none⟩) n n) rfl
            have ca := hSx.abx.cellAt (i := 0) (v := .int .i64 a) rfl
            have ch : wr.cell? ⟨nb + 1, a, none⟩ = some (.slice (some ⟨r, 0, none⟩) n n) := by
              obtain ⟨r', h1, h2⟩ := hSx.part.hcell (Nat.le_refl a) han
              rw [hr0] at h1
              cases h1
              exact h2
            obtain ⟨rb, hrb, chb⟩ := hSx.part.hcell (x := b) (by omega) hbn.2
            have c1 := hSx.part.rcell (Nat.le_refl a) hr0 hkn
            have c2 := hSx.part.rcell (x := b) (by omega) hrb hkn
            simp only [if_true, Nat.lt_irrefl, if_false] at c1
            simp only [show b ≠ a by omega, if_false] at c2
            have crf := (hSx.part.rblk (Nat.le_refl a) hr0).1.frozen
            have hset := fun v => hSx.setRow (Nat.le_refl a) hr0 hkn v
            have hne : b ≠ a := by omega
            have hab2 : a < b := hbn.1
            have hbn2 : b < n := hbn.2
            have hfin : ∀ v, v = (rowTo ops a (pre.map (·.1)) k || rch ops b k) → ∀ q, RSt w nb n cap ao ((wr.drewN q).setCell ⟨r, k, none⟩ (.bool v)) a a ab (r :: rs) (fun y d => if y = a then (if d < k + 1 then rowTo ops a (pre.map (·.1) ++ [(b, kx)]) d else rowTo ops a (pre.map (·.1)) d) else rch ops y d) := by
              intro v hv q
              refine RSt.congr (RSt.chg (hset v) ((Chg.refl (fun _ => False) _).drewN q) (fun _ h => h.elim)) ?_
              intro y d h1 h2 h3
              by_cases hya : y = a
              · subst hya
                by_cases hdk : d = k
                · subst hdk
                  rw [if_pos ⟨rfl, rfl⟩, if_pos rfl, if_pos (Nat.lt_succ_self _), rowTo_snoc, hv]
                · simp only [true_and, if_neg hdk, if_true]
                  by_cases hlt : d < k
                  · rw [if_pos hlt, if_pos (by omega)]
                  · rw [if_neg hlt, if_neg (by omega)]
              · simp [hya]
            have hfc : ∀ v q, Chg (fun b => b = r) W ((wr.drewN q).setCell ⟨r, k, none⟩ v) := fun v q => (hcx.drewN q).setCell _ _ (fun _ => rfl)
            clear hset hcx hSx hS8 hM8 hS7 hM7 hsq hMl hxm hu1 hu2 hx
            generalize rowTo ops a (pre.map (·.1)) k = v1 at *
            generalize rch ops b k = v2 at *
            cases v1 with
            | true =>
              gi_wp2
              refine round_region_quiet_tail _ 22 (by kernel_rfl) (fun h => by obtain ⟨a, w, h⟩ := h; exact h) (by kernel_rfl) (by kernel_rfl) ?_
              simp only [List.take_succ_cons, List.take_zero, List.drop_succ_cons, List.drop_zero]
              repeat (go_big_quiet_step (fail))
              refine wpQuiet_nil ?_
              intro _ hw'
              obtain ⟨nq, hw''⟩ := hw'
              subst hw''
              have hf1 := hfin true (by simp) nq
              have hf2 := hfc (.bool true) nq
              clear hfin hfc
              go_wp2_with fail
              gi_wp2
              go_roundw
              case rel => exact ⟨k + 1, by omega, by go_num, hf2, hf1⟩
              case measure => simp [intOf]; omega
            | false =>
              gi_wp2
              refine round_region_quiet_tail _ 22 (by kernel_rfl) (fun h => by obtain ⟨a, w, h⟩ := h; exact h) (by kernel_rfl) (by kernel_rfl) ?_
              simp only [List.take_succ_cons, List.take_zero, List.drop_succ_cons, List.drop_zero]
              repeat (go_big_quiet_step (fail))
              refine wpQuiet_nil ?_
              intro _ hw'
              obtain ⟨nq, hw''⟩ := hw'
              subst hw''
              have hf1 := hfin v2 (by simp) nq
              have hf2 := hfc (.bool v2) nq
              clear hfin hfc
              go_wp2_with fail
              gi_wp2
              go_roundw
              case rel => exact ⟨k + 1, by omega, by go_num, hf2, hf1⟩
              case measure => simp [intOf]; omega
          · obtain rfl : k = n := by omega
            gi_wp2
            refine ⟨keepsFrom_of_chg hcx (fun j hj _ => ?_), keepS_chg hcx (fun j hj => ?_), ?_, ?_⟩
            · rw [hj]
              exact ⟨_, _, _, (hS8.part.rblk (Nat.le_refl a) hr0).1⟩
            · have h1 := hS8.bel.size
              have h2 := (hS8.part.rblk (Nat.le_refl a) hr0).1.lt
              rcases hj with hj | rfl <;> omega
            · refine RSt.congr hSx ?_
              intro y d h1 h2 h3
              simp [h3]
            · exact ⟨hM8.chg hcx (fun j e x => by rw [e]; exact (hS8.part.rblk (Nat.le_refl a) hr0).1.noDef x), Nat.le_trans hz8 hcx.size⟩
    · obtain rfl : i = 0 := by omega
      have ca2 : wr.cell? ⟨ab, 0, none⟩ = some (.int .i64 (-1)) := by simpa using ca
      clear ca
      go_wp2_with fail
      refine leavesM_marks ds wr hM hL.bel.size (fun w' hs => ⟨_, results_tmp rfl _ _ _, ?_⟩)
      exact ⟨_, rfl, ⟨nb + 1, rs, rfl, (hL.part.base (Nat.le_of_lt hL.nlt)).shut hs⟩, hL.bel.trans hs.below⟩
theorem RPart.own {β : Type} (B base hb n i : Nat) (rs : List Nat) (f : Nat → Nat → Bool) : OwnFrom B (fun (_ : β) W => RPart W base hb n i rs f) := fun _ X Y row hs hg hr =>
  hs.chg (Chg.of_grown hg) (fun b _ _ hm e => by
    obtain ⟨h1, o, h2, h3⟩ := hr b e
    have hb : ∃ cs T, Blk X b cs T := by
      rcases hm with rfl | hm
      · exact ⟨_, _, hs.hdr⟩
      · obtain ⟨j, hj, e⟩ := List.getElem_of_mem hm
        rw [← e]
        exact ⟨_, _, (hs.rows j hj).2.2⟩
    obtain ⟨cs, T, hb⟩ := hb
    unfold Blk at hb
    rw [hb] at h2
    cases h2
    cases h3)
/-- Reaches: rows where the graph is right, none where it isn't. -/
theorem reaches_no (ops : List TOp) (cap : Nat) (ao : Option Addr) (w : World) (B : Nat) (hB : B ≤ w.heap.size) (hx : SlA B 7 (ROp B) w ao cap ops) (hok : (gcheck ops).2 ≠ 0) :
    Calls Tryz.prog 48 #[.agg #[.slice ao ops.length cap]] w fun e w' => e = .returned (.slice none 0 0) ∧ Below w.heap.size w w' := reaches_bad ops cap ao w B hB hx hok
end Go.Proofs.YtjmbafcpbagpdaaGreat

/- Graph: the reference's Reach. -/
namespace Go.Proofs.YtjmbafcpbagpdaaGreat
open Go.RowKit
set_option linter.unusedVariables false

theorem rch_self (ops : List TOp) (a : Nat) : rch ops a a = true := rch_iff.2 (.refl _)
theorem rch_gt {ops : List TOp} (hg : OkG ops) {a b : Nat} (h : b < a) : rch ops a b = false := by
  cases hr : rch ops a b with
  | false => rfl
  | true => have := (rch_iff.1 hr).le hg; omega
theorem rch_hit {ops : List TOp} {a b c : Nat} {o : TOp} (ho : ops[b]? = some o) (hc : (c : Int) ∈ o.fIn) (h : rch ops a c = true) : rch ops a b = true :=
  rch_iff.2 ((rch_iff.1 h).trans (.step ⟨o, ho, hc⟩ (.refl _)))
theorem rch_none {ops : List TOp} {a b : Nat} {o : TOp} (hab : a ≠ b) (ho : ops[b]? = some o) (h : ∀ c : Nat, (c : Int) ∈ o.fIn → rch ops a c = false) : rch ops a b = false := by
  cases hr : rch ops a b with
  | false => rfl
  | true =>
    rcases (pathG_tail a b).1 (rch_iff.1 hr) with e | ⟨c, h1, o', h2, h3⟩
    · exact absurd e hab
    · rw [ho] at h2
      cases h2
      have := h c h3
      rw [rch_iff.2 h1] at this
      cases this

set_option maxRecDepth 100000 in
set_option maxHeartbeats 2000000 in
theorem rreach_any (ops : List TOp) (cap : Nat) (gb goff : Nat) (B : Nat) (hG : OkG ops) : ∀ (d b a : Nat) (w : World), b < d → B ≤ w.heap.size → SlA B 7 (ROp B) w (some ⟨gb, goff, none⟩) cap ops → b < ops.length → a < ops.length →
    Calls Tryz.prog 39 #[.agg #[.slice (some ⟨gb, goff, none⟩) ops.length cap], .int .i64 a, .int .i64 b] w fun e w' => e = .returned (.bool (rch ops a b)) ∧ Below w.heap.size w w' := by
  intro d
  induction d with
  | zero => intro b a w h; omega
  | succ d ih =>
    intro b a w hbd hB hx hbn han
    have hgb := hx.lt (show 0 < ops.length by omega)
    by_cases hab : a = b
    · subst hab
      rw [rch_self]
      have hab2 : ((a : Int) == (a : Int)) = true := by simp
      generalize ops.length = n
      go_enter Tryz.func39, Tryz.ntmps39
      go_wp2_with fail
      go_ret
      exact ⟨rfl, (by repeat (first | exact Below.refl _ _ | assumption | refine below_drewN ?_ _ | refine Below.drew ?_ | (refine Below.setCell ?_ (by first | omega | (simp; omega) | simp) _) | (refine Below.alloc ?_ (by first | omega | (simp; omega) | simp) _) | (refine Below.trans ?_ (Below.mono (by assumption) (by first | omega | (simp; omega) | simp)))))⟩
    by_cases hlt : b < a
    · rw [rch_gt hG hlt]
      have h1 : ((a : Int) == (b : Int)) = false := by simp; omega
      have h2 : decide ((b : Int) < (a : Int)) = true := by simp; omega
      generalize ops.length = n
      go_enter Tryz.func39, Tryz.ntmps39
      go_wp2_with fail
      go_ret
      exact ⟨rfl, (by repeat (first | exact Below.refl _ _ | assumption | refine below_drewN ?_ _ | refine Below.drew ?_ | (refine Below.setCell ?_ (by first | omega | (simp; omega) | simp) _) | (refine Below.alloc ?_ (by first | omega | (simp; omega) | simp) _) | (refine Below.trans ?_ (Below.mono (by assumption) (by first | omega | (simp; omega) | simp)))))⟩
    · obtain ⟨o, ho⟩ : ∃ o, ops[b] = o := ⟨_, rfl⟩
      have hob : ops[b]? = some o := by rw [List.getElem?_eq_getElem hbn, ho]
      have hins := hG.ins b o hob
      have h1 : ((a : Int) == (b : Int)) = false := by simp; omega
      have h2 : decide ((b : Int) < (a : Int)) = false := by simp; omega
      have h3 : decide (b < a) = false := by simp; omega
      obtain ⟨n, hn⟩ : ∃ n, n = ops.length := ⟨_, rfl⟩
      have ihx := fun (c : Nat) (hc : c < b) (W : World) (hW : Below w.heap.size w W) => ih c a W (by omega) (Nat.le_trans hB hW.size) (imp_ops hx (hW.mono hB)) (by omega) han
      rw [← hn] at ihx hbn han ⊢
      have hnone : (∀ c : Nat, (c : Int) ∈ o.fIn → rch ops a c = false) → rch ops a b = false := fun h => rch_none hab hob h
      have hhit : ∀ c : Nat, (c : Int) ∈ o.fIn → rch ops a c = true → rch ops a b = true := fun c h1 h2 => rch_hit hob h1 h2
      obtain ⟨res, hres⟩ : ∃ r, r = rch ops a b := ⟨_, rfl⟩
      rw [← hres] at hnone hhit ⊢
      replace hnone := Lib.hid hnone
      replace hhit := Lib.hid hhit
      replace hins := Lib.hid hins
      have hog := Lib.hid ho
      replace hn := Lib.hid hn
      replace ihx := Lib.hid ihx
      clear hres ih hob ho hG
      go_enter Tryz.func39, Tryz.ntmps39
      go_wp2_with fail
      have hbl : Blk (w.alloc (.cells #[.slice (some ⟨gb, goff, none⟩) n cap] 24)) w.heap.size #[.slice (some ⟨gb, goff, none⟩) n cap] 24 := Blk.new _ _ _
      have hb0 : Below w.heap.size w (w.alloc (.cells #[.slice (some ⟨gb, goff, none⟩) n cap] 24)) := (Below.refl _ _).alloc (Nat.le_refl _) _
      generalize w.alloc (.cells #[.slice (some ⟨gb, goff, none⟩) n cap] 24) = w1 at hbl hb0 ⊢
      have hbnx : b < ops.length := by rw [← hn.out]; exact hbn
      obtain ⟨il, hil⟩ : ∃ il, il = o.fIn.length := ⟨_, rfl⟩
      replace hil := Lib.hid hil
      go_loopw [7] (fun k wr => ∃ kk : Nat, kk ≤ il ∧ k = .int .i64 kk ∧ Below w.heap.size w wr ∧ Blk wr w.heap.size #[.slice (some ⟨gb, goff, none⟩) n cap] 24 ∧ Hid (∀ j (h : j < o.fIn.length), j < kk → ∀ c : Nat, (c : Int) = o.fIn[j] → rch ops a c = false)) (fun k _ => il - (intOf k).toNat)
      case atStart => exact ⟨0, Nat.zero_le _, rfl, hb0, hbl, Lib.hid (fun j h h0 => absurd h0 (Nat.not_lt_zero _))⟩
      case round =>
        clear hbl hb0 w1
        obtain ⟨kk, hk, rfl, hbel, hbl, hpre⟩ := hrel
        obtain ⟨ao1, cap1, e0, e1, e2, e3, e4, e5, e6, _, hin, _⟩ := ROp.at (imp_ops hx (hbel.mono hB)) hbnx hog.out
        rw [← hil.out] at e1
        have hill := hin.len
        rw [← hil.out] at hill
        have cg := hbl.cellAt (i := 0) (v := .slice (some ⟨gb, goff, none⟩) n cap) rfl
        have hgw : gb < wr.heap.size := by have := hbel.size; omega
        clear e0 e2 e3 e4 e5 e6
        by_cases hkl : kk < il
        · have hklx : kk < o.fIn.length := by rw [← hil.out]; exact hkl
          obtain ⟨b2, off2, rfl, hb2, _⟩ := hin.addr (by omega)
          obtain ⟨hv0, hv1⟩ := hins.out o.fIn[kk] (List.getElem_mem hklx)
          obtain ⟨c, hc⟩ : ∃ c : Nat, (c : Int) = o.fIn[kk] := ⟨o.fIn[kk].toNat, by omega⟩
          have hcb : c < b := by omega
          have cin : wr.cell? ⟨b2, off2 + kk, none⟩ = some (.int .i64 c) := by
            obtain ⟨cs, _, h6, rfl, _⟩ := hin.get kk hklx
            have h7 := h6 0 (by omega)
            rw [Nat.mul_one, Nat.add_zero] at h7
            rw [h7, hc]
            rfl
          have hmem : (c : Int) ∈ o.fIn := by rw [hc]; exact List.getElem_mem hklx
          replace hc := Lib.hid hc
          have hb2w : b2 < wr.heap.size := by have := hbel.size; omega
          clear hv0 hv1 hin
          go_wp2_with fail
          refine wp_region_quiet_tail 11 (by kernel_rfl) (by kernel_rfl) ?_
          simp only [List.take_succ_cons, List.take_zero, List.drop_succ_cons, List.drop_zero]
          repeat (go_big_quiet_step (fail))
          refine wpQuiet_nil ?_
          intro _ hw'
          obtain ⟨nq, hw''⟩ := hw'
          subst hw''
          have hcall := ihx.out c hcb (wr.drewN nq) (below_drewN hbel nq)
          obtain ⟨v, hv⟩ : ∃ v, v = rch ops a c := ⟨_, rfl⟩
          rw [← hv] at hcall
          replace hmem := Lib.hid hmem
          replace hv := Lib.hid hv
          go_wp2_with fail
          refine hcall.mono ?_
          rintro e w3 ⟨rfl, hb3⟩
          have hbel3 := (below_drewN hbel nq).trans (hb3.mono (below_drewN hbel nq).size)
          have hbl3 := (hbl.drewN nq).below hb3 (hbl.drewN nq).lt
          clear hcall hb3
          cases v with
          | true =>
            obtain rfl : res = true := hhit.out c hmem.out hv.out.symm
            dsimp only
            go_wp2_with fail
            go_ret
            exact ⟨rfl, hbel3⟩
          | false =>
            have hnext : Hid (∀ j (h : j < o.fIn.length), j < kk + 1 → ∀ c : Nat, (c : Int) = o.fIn[j] → rch ops a c = false) := Lib.hid (fun j h hj c' hc' => by
              by_cases hjk : j = kk
              · subst hjk
                obtain rfl : c' = c := by have := hc.out; omega
                exact hv.out.symm
              · exact hpre.out j h (by omega) c' hc')
            dsimp only
            go_wp2_with fail
            go_roundw
            case rel => exact ⟨kk + 1, by omega, by go_num, hbel3, hbl3, hnext⟩
            case measure => simp [intOf]; omega
        · obtain rfl : kk = il := by omega
          obtain rfl : res = false := hnone.out (fun c hc => by
            obtain ⟨j, hj, e⟩ := List.getElem_of_mem hc
            exact hpre.out j hj (by rw [hil.out]; exact hj) c e.symm)
          go_wp2_with fail
          go_ret
          exact ⟨rfl, hbel⟩
end Go.Proofs.YtjmbafcpbagpdaaGreat

/- Graph: the reference's Uses. -/
namespace Go.Proofs.YtjmbafcpbagpdaaGreat
open Go.RowKit
set_option linter.unusedVariables false

end Go.Proofs.YtjmbafcpbagpdaaGreat
