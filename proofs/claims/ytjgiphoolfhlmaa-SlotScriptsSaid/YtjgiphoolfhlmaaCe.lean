/- Sums of bytes: the halves of bytes, one after the other. -/
import Derived.RangeFuncNested
import Derived.RangeFuncBound
import Derived.RangeFuncCalls
import Derived.RangeFuncLeaves
import Derived.RangeFuncFrom
import Derived.RangeFuncWrites
import Derived.OwnWalkIn
import Derived.TacticsInMore
import Derived.LoopNIn
import Derived.LoopIn
import Derived.Test.YtjgiphoolfhlmaaCb
import Derived.Test.YtjgiphoolfhlmaaL10
import Derived.Test.YtjgiphoolfhlmaaDb
import Derived.Shelf.Abstract
import Derived.Shelf.RegionOpen
namespace Go.Proofs.Ytjgiphoolfhlmaa
open Go.RowKit
attribute [local go_sem] Oper.semAt_some
set_option linter.unusedVariables false
set_option linter.unusedSimpArgs false

/-- The blocks of S lie as they lay. -/
structure KeepT (S : Nat → Prop) (w w' : World) : Prop where
  size : w.heap.size ≤ w'.heap.size
  block : ∀ k, S k → w'.heap[k]? = w.heap[k]?
namespace KeepT
theorem refl (S : Nat → Prop) (W : World) : KeepT S W W := ⟨Nat.le_refl _, fun _ _ => rfl⟩
theorem trans {S : Nat → Prop} {A B C : World} (h : KeepT S A B) (k : KeepT S B C) : KeepT S A C :=
  ⟨Nat.le_trans h.size k.size, fun i hs => (k.block i hs).trans (h.block i hs)⟩
theorem cell {S : Nat → Prop} {A B : World} (h : KeepT S A B) {b off : Nat} (hs : S b) : B.cell? ⟨b, off, none⟩ = A.cell? ⟨b, off, none⟩ := by
  simp only [World.cell?, h.block b hs]
end KeepT

def halvesF (bs : List UInt8) : List (Fin 16) := bs.flatMap (fun b => [⟨b.toNat % 16, Nat.mod_lt _ (by decide)⟩, ⟨b.toNat / 16 % 16, Nat.mod_lt _ (by decide)⟩])
theorem halvesF_take (bs : List UInt8) {k : Nat} (h : k < bs.length) : halvesF (bs.take (k + 1)) = halvesF (bs.take k) ++ [⟨bs[k].toNat % 16, Nat.mod_lt _ (by decide)⟩, ⟨bs[k].toNat / 16 % 16, Nat.mod_lt _ (by decide)⟩] := by
  rw [List.take_succ_eq_append_getElem h]
  unfold halvesF
  rw [List.flatMap_append]
  rfl
theorem halvesF_prefix (bs : List UInt8) (k : Nat) : halvesF (bs.take k) <+: halvesF bs := by
  have : halvesF bs = halvesF (bs.take k) ++ halvesF (bs.drop k) := by
    unfold halvesF
    rw [← List.flatMap_append, List.take_append_drop]
  rw [this]
  exact List.prefix_append _ _
theorem foldl_halves : ∀ (bs : List UInt8) (r : Nat), (halvesF bs).foldl (fun r (h : Fin 16) => nibC r h.val) r = extC r bs
  | [], r => rfl
  | b :: t, r => by
    show (halvesF t).foldl _ (nibC (nibC r (b.toNat % 16)) (b.toNat / 16 % 16)) = extC (byteC r b.toNat) t
    rw [foldl_halves t]
    have := b.toNat_lt
    rw [show b.toNat / 16 % 16 = b.toNat / 16 by omega]
    rfl

set_option maxRecDepth 100000 in
set_option maxHeartbeats 4000000 in
theorem halves1_in (F : Fence) (n : Nat) (h8 : F.fn 69) (hro : F.round = none) (hn : 1 ≤ n) (l bx B : Nat) (S : Nat → Prop) (ao : Option Addr) (cap : Nat) (bs : List UInt8) (J Jx : List (Fin 16) → World → Prop) (W : World)
    (hS : ∀ i, i < B → S i) (hSx : S bx)
    (hY : ∀ pre x W1, J pre W1 → pre ++ [x] <+: halvesF bs → YieldAt F (n - 1) Try.prog l #[.int .u32 (x.val : Nat)] W1 fun e W' =>
      (e = .returned (.bool true) ∧ J (pre ++ [x]) W' ∧ KeepT S W1 W') ∨ (e = .returned (.bool false) ∧ Jx (pre ++ [x]) W'))
    (hbx : W.cell? ⟨bx, 0, none⟩ = some (.slice ao bs.length cap)) (hsl : SlA B 1 EU W ao cap bs) (h0 : J [] W) :
    CallsIn F n Try.prog 69 #[.func (.yield l) #[] #[], .pointer (some ⟨bx, 0, none⟩)] W fun e W' => (∃ v, e = .returned v) ∧
      (J (halvesF bs) W' ∨ (∃ pre, pre <+: halvesF bs ∧ Jx pre W')) := by
  have hlen := hsl.len
  obtain ⟨m, hm⟩ : ∃ m, m = bs.length := ⟨_, rfl⟩
  rw [← hm] at hbx hlen
  replace hm := Lib.hid hm
  replace hY := Lib.hid hY
  replace h0 := Lib.hid h0
  refine callsIn_of_wp Try.func69 rfl h8 ?_ hro
  simp only [Try.ntmps69, List.size_toArray, List.length_cons, List.length_nil, Nat.reduceAdd, Nat.reduceSub, Array.replicate_succ, Array.replicate_zero, List.push_toArray, List.append_toArray, List.nil_append, List.cons_append]
  gi_wp2
  gi_loopw [7] (fun i wr => ∃ k : Nat, k ≤ m ∧ i = .int .i64 k ∧ Hid (J (halvesF (bs.take k)) wr) ∧ KeepT S W wr)
    (fun i _ => m - (intOf i).toNat)
  case atStart => exact ⟨0, Nat.zero_le _, rfl, h0, KeepT.refl _ _⟩
  case round =>
    obtain ⟨k, hk, rfl, hJs, hkp⟩ := hrel
    by_cases hlt : k < m
    · have hkc : k < bs.length := by rw [← hm.out]; exact hlt
      obtain ⟨b1, o1, rfl, hb1, _⟩ := hsl.addr (by omega)
      obtain ⟨cs, hcl, h6, h7⟩ := hsl.get k hkc
      obtain ⟨c, hc⟩ : ∃ c, c = bs[k].toNat := ⟨_, rfl⟩
      have hc256 : c < 256 := by rw [hc]; exact bs[k].toNat_lt
      have h8 := h6 0 (by omega)
      rw [h7, Nat.mul_one, Nat.add_zero, ← hkp.cell (hS b1 hb1)] at h8
      have e0 : wr.cell? ⟨b1, o1 + k, none⟩ = some (.int .u8 c) := by rw [h8, hc]; rfl
      have htk := halvesF_take bs hkc
      rw [← hc] at htk
      have hpf := halvesF_prefix bs (k + 1)
      rw [htk] at hpf
      obtain ⟨lo, hlo⟩ : ∃ lo, lo = c % 16 := ⟨_, rfl⟩
      obtain ⟨hi, hhi⟩ : ∃ hi, hi = c / 16 := ⟨_, rfl⟩
      have a1 : bits .and .u8 (c : Int) 15 = (lo : Int) := by rw [bits8_and15 c hc256, hlo]
      have a2 : (c : Int) / 16 = (hi : Int) := by omega
      have hi16 : hi < 16 := by omega
      have lo16 : lo < 16 := by omega
      have htk2 : halvesF (bs.take (k + 1)) = halvesF (bs.take k) ++ [⟨lo, lo16⟩] ++ [⟨hi, hi16⟩] := by
        rw [htk, List.append_assoc]
        congr 1
        simp [hlo, hhi]
        omega
      have hpf2 : halvesF (bs.take k) ++ [⟨lo, lo16⟩] ++ [⟨hi, hi16⟩] <+: halvesF bs := by rw [← htk2]; exact halvesF_prefix bs (k + 1)
      have hpf1 : halvesF (bs.take k) ++ [⟨lo, lo16⟩] <+: halvesF bs := (List.prefix_append _ _).trans hpf2
      obtain ⟨fn, tmps, assign, body, hy, hR⟩ := hY.out _ ⟨lo, lo16⟩ _ hJs.out hpf1
      dsimp only at hy
      replace hR := Lib.hid hR
      replace htk2 := Lib.hid htk2
      replace hpf2 := Lib.hid hpf2
      replace hpf1 := Lib.hid hpf1
      clear htk hpf h6 h7 h8 hcl hc hlo hhi
      gi_wp2
      refine hR.out.mono ?_
      rintro e W3 (⟨rfl, hJ3, hk3⟩ | ⟨rfl, hJx3⟩)
      · obtain ⟨fn2, tmps2, assign2, body2, hy2, hR2⟩ := hY.out _ ⟨hi, hi16⟩ _ hJ3 hpf2.out
        dsimp only at hy2
        replace hR2 := Lib.hid hR2
        have hkp3 := hkp.trans hk3
        clear hR hJs hJ3 hk3 hkp
        gi_wp2
        refine hR2.out.mono ?_
        rintro e W4 (⟨rfl, hJ4, hk4⟩ | ⟨rfl, hJx4⟩)
        · gi_wp2
          go_roundw
          case rel => exact ⟨k + 1, by omega, by go_num, Lib.hid (by rw [htk2.out]; exact hJ4), hkp3.trans hk4⟩
          case measure => simp [intOf]; omega
        · gi_wp2
          refine bodyPost_ret (results_none rfl _ _ _) rfl ?_
          exact ⟨⟨_, rfl⟩, .inr ⟨_, hpf2.out, hJx4⟩⟩
      · clear hR hJs
        gi_wp2
        refine ⟨fun _ h => (by cases h), ?_⟩
        gi_wp2
        refine bodyPost_ret (results_none rfl _ _ _) rfl ?_
        exact ⟨⟨_, rfl⟩, .inr ⟨_, hpf1.out, hJx3⟩⟩
    · obtain rfl : k = m := by omega
      have d9 : decide ((k : Int) < (k : Int)) = false := by simp
      gi_wp2
      go_end0
      refine ⟨⟨_, rfl⟩, .inl ?_⟩
      have := hJs.out
      rwa [List.take_of_length_le (by rw [hm.out]; exact Nat.le_refl _)] at this
theorem halves_stops (F : Fence) (n : Nat) (h8 : F.fn 69) (hro : F.round = none) (hn : 1 ≤ n) (bx B : Nat) (S : Nat → Prop) (ao : Option Addr) (cap : Nat) (bs : List UInt8) (w : World)
    (hS : ∀ i, i < B → S i) (hSx : S bx) (hBw : B ≤ w.heap.size) (hbx : w.cell? ⟨bx, 0, none⟩ = some (.slice ao bs.length cap)) (hsl : SlA B 1 EU w ao cap bs) :
    SeqStopsK F n Try.prog 69 #[.pointer (some ⟨bx, 0, none⟩)] (fun x : Fin 16 => #[.int .u32 (x.val : Nat)]) (KeepT S) (fun ys => ys = halvesF bs) (fun pre => pre <+: halvesF bs) (halvesF bs).length w := fun l J Jx W hW hJ hJx hY h0 => by
  refine (halves1_in F n h8 hro hn l bx B S ao cap bs J Jx W hS hSx (fun pre x W1 h1 h2 => hY pre x W1 h1 (by have := h2.length_le; simp at this; omega)) ((hW.cell (p := ⟨bx, 0, none⟩) (World.lt_of_cell hbx)).trans hbx) (hsl.imp (hW.mono hBw) (Nat.le_refl _) (fun cs x _ h => h)) h0).mono ?_
  rintro e W' ⟨he, hj | ⟨pre, hp, hj⟩⟩
  · exact ⟨he, .inl ⟨_, rfl, hj⟩⟩
  · exact ⟨he, .inr ⟨_, hp, hj⟩⟩
theorem halves_any (sv : Value) (ao : Option Addr) (pl pc : Nat) (h : sv = .slice ao pl pc) (w : World) :
    Calls Try.prog 67 #[sv] w fun e w' => e = .returned (.func (.func 69) #[] #[.pointer (some ⟨w.heap.size, 0, none⟩)]) ∧ w' = w.alloc (.cells #[sv] 44) := by
  subst h
  go_enter Try.func67, Try.ntmps67
  go_wp2_with fail
  go_ret
  exact ⟨rfl, rfl⟩
end Go.Proofs.Ytjgiphoolfhlmaa

/- Sums of bytes: the program's Extend and Sum. -/
namespace Go.Proofs.Ytjgiphoolfhlmaa
open Go.RowKit Go.Shelf
attribute [local go_sem] Oper.semAt_some
set_option linter.unusedVariables false
set_option linter.unusedSimpArgs false

theorem xor_all (a : Nat) (h : a < 4294967296) : 4294967295 ^^^ a = 4294967295 - a := by
  have e := congrArg BitVec.toNat (BitVec.allOnes_xor (x := BitVec.ofNat 32 a))
  rw [BitVec.toNat_xor, BitVec.toNat_not, BitVec.toNat_allOnes, BitVec.toNat_ofNat, Nat.mod_eq_of_lt (show a < 2 ^ 32 from h)] at e
  simpa using e
theorem not_u32 (a : Nat) (ha : a < 4294967296) : bits BinOp.xor IntKind.u32 (if IntKind.u32.signed = true then -1 else IntKind.u32.max) (a : Int) = ((4294967295 - a : Nat) : Int) := by
  have h := bits_xor 4294967295 a (by decide) ha
  rw [xor_all a ha] at h
  exact h
theorem tabLit : tabArr 16 = #[.int .u32 (tabC 0 : Nat), .int .u32 (tabC 1 : Nat), .int .u32 (tabC 2 : Nat), .int .u32 (tabC 3 : Nat), .int .u32 (tabC 4 : Nat), .int .u32 (tabC 5 : Nat), .int .u32 (tabC 6 : Nat), .int .u32 (tabC 7 : Nat), .int .u32 (tabC 8 : Nat), .int .u32 (tabC 9 : Nat), .int .u32 (tabC 10 : Nat), .int .u32 (tabC 11 : Nat), .int .u32 (tabC 12 : Nat), .int .u32 (tabC 13 : Nat), .int .u32 (tabC 14 : Nat), .int .u32 (tabC 15 : Nat)] := by kernel_rfl

set_option maxRecDepth 100000 in
set_option maxHeartbeats 4000000 in
theorem extend_any (sum : Nat) (hsum : sum < 4294967296) (ao : Option Addr) (cap : Nat) (bs : List UInt8) (w : World) (hd : SlA w.heap.size 1 EU w ao cap bs) :
    Calls Try.prog 58 #[.int .u32 sum, .slice ao bs.length cap] w fun e w' => e = .returned (.int .u32 (4294967295 - extC (4294967295 - sum) bs : Nat)) ∧ Below w.heap.size w w' := by
  obtain ⟨m, hm⟩ : ∃ m, m = bs.length := ⟨_, rfl⟩
  rw [← hm]
  have hha := fun (sv : Value) (pl : Nat) (h : sv = .slice ao pl cap) w1 => halves_any sv ao pl cap h w1
  replace hm := Lib.hid hm
  replace hha := Lib.hid hha
  refine calls_of_marks Try.func58 rfl ?_
  simp only [Try.ntmps58, List.size_toArray, List.length_cons, List.length_nil, Nat.reduceAdd, Nat.reduceSub, Array.replicate_succ, Array.replicate_zero, List.push_toArray, List.append_toArray, List.nil_append, List.cons_append]
  go_wp2_with fail
  refine (half_any w).mono ?_
  rintro e w1 ⟨rfl, hb1⟩
  have htl := tabLit
  rw [tabLit]
  generalize tabC = tb at htl ⊢
  replace htl := Lib.hid htl
  dsimp only
  go_upto_region 3 with fail
  rw [not_u32 sum hsum]
  obtain ⟨r0, hr0⟩ : ∃ r0, r0 = 4294967295 - sum := ⟨_, rfl⟩
  have hr32 : r0 < 4294967296 := by omega
  rw [← hr0]
  obtain ⟨tk, htk⟩ : ∃ tk, tk = w1.heap.size := ⟨_, rfl⟩
  obtain ⟨w2, hw2⟩ : ∃ w2, w2 = (w1.alloc (.cells #[.int .u32 (tb 0 : Nat), .int .u32 (tb 1 : Nat), .int .u32 (tb 2 : Nat), .int .u32 (tb 3 : Nat), .int .u32 (tb 4 : Nat), .int .u32 (tb 5 : Nat), .int .u32 (tb 6 : Nat), .int .u32 (tb 7 : Nat), .int .u32 (tb 8 : Nat), .int .u32 (tb 9 : Nat), .int .u32 (tb 10 : Nat), .int .u32 (tb 11 : Nat), .int .u32 (tb 12 : Nat), .int .u32 (tb 13 : Nat), .int .u32 (tb 14 : Nat), .int .u32 (tb 15 : Nat)] 126)).alloc (.cells #[.int .u32 (r0 : Nat)] 90) := ⟨_, rfl⟩
  have hT : Blk w2 tk (tabArr 16) 126 := by rw [hw2, htk, htl.out]; exact (Blk.new w1 _ _).alloc _
  have hRb : Blk w2 (tk + 1) #[.int .u32 (r0 : Nat)] 90 := by
    have := Blk.new (w1.alloc (.cells #[.int .u32 (tb 0 : Nat), .int .u32 (tb 1 : Nat), .int .u32 (tb 2 : Nat), .int .u32 (tb 3 : Nat), .int .u32 (tb 4 : Nat), .int .u32 (tb 5 : Nat), .int .u32 (tb 6 : Nat), .int .u32 (tb 7 : Nat), .int .u32 (tb 8 : Nat), .int .u32 (tb 9 : Nat), .int .u32 (tb 10 : Nat), .int .u32 (tb 11 : Nat), .int .u32 (tb 12 : Nat), .int .u32 (tb 13 : Nat), .int .u32 (tb 14 : Nat), .int .u32 (tb 15 : Nat)] 126)) #[.int .u32 (r0 : Nat)] 90
    rw [World.size_alloc, ← htk] at this
    rw [hw2]
    exact this
  have hb2 : Below w.heap.size w w2 := by rw [hw2]; exact (hb1.alloc hb1.size _).alloc (by rw [World.size_alloc]; have := hb1.size; omega) _
  have hz2 : w2.heap.size = tk + 2 := by rw [hw2, htk]; simp
  have hwtk : w.heap.size ≤ tk := by rw [htk]; exact hb1.size
  rw [← hw2, ← htk]
  replace hz2 := Lib.hid hz2
  replace hr0 := Lib.hid hr0
  clear hw2 htk htl hb1
  go_wp2_with fail
  refine (hha.out _ m rfl w2).mono ?_
  rintro e w3 ⟨rfl, hw3⟩
  obtain ⟨bx, hbx⟩ : ∃ bx, bx = w2.heap.size := ⟨_, rfl⟩
  have hb23 : Below w2.heap.size w2 w3 := by rw [hw3]; exact belowAlloc _ _
  have hX : Blk w3 bx #[.slice ao m cap] 44 := by rw [hw3, hbx]; exact Blk.new _ _ _
  have hbx2 : bx = tk + 2 := by rw [hbx, hz2.out]
  have hz3 : w3.heap.size = bx + 1 := by rw [hw3, hbx]; simp
  rw [← hbx]
  have hb3 := hb2.trans (hb23.mono hb2.size)
  have hT3 := hT.below hb23 hT.lt
  have hR3 := hRb.below hb23 hRb.lt
  have hd3 : SlA w.heap.size 1 EU w3 ao cap bs := hd.imp hb3 (Nat.le_refl _) (fun cs x _ h => h)
  have hwbx : w.heap.size ≤ bx := by omega
  have hst := halves_stops Fence.wide (8 - 1) trivial rfl (by omega) bx w.heap.size (fun i => i < w.heap.size ∨ i = bx) ao cap bs w3 (fun i h => .inl h) (.inr rfl) hb3.size (by rw [← hm.out]; exact hX.cellAt rfl) hd3
  replace hbx2 := Lib.hid hbx2
  replace hz3 := Lib.hid hz3
  clear hw3 hbx hb23 hT hRb hX
  dsimp only
  go_wp2_with fail
  refine (wpIn_wide (n := 8)).1 ?_
  refine wpIn_rangeFunc_ownG (α := Fin 16) rfl (by omega) (gf := 69) (lb := #[.pointer (some ⟨bx, 0, none⟩)]) rfl trivial (enters_of Try.func69 (by kernel_rfl) rfl)
    hst KeepT.trans (fun W l o o' h1 h2 h3 h4 => ⟨Nat.le_of_eq (by simp [World.putObj]), fun k hk => World.putObj_heap_other (by have := hz3.out; rcases hk with hk | hk <;> omega)⟩) (Below.refl _ _) (fun _ => rfl)
    (fun pre W => Blk W tk (tabArr 16) 126 ∧ Blk W (tk + 1) #[.int .u32 (pre.foldl (fun r (h : Fin 16) => nibC r h.val) r0 : Nat)] 90 ∧ pre.foldl (fun r (h : Fin 16) => nibC r h.val) r0 < 4294967296 ∧ Below w.heap.size w W ∧ w3.heap.size ≤ W.heap.size)
    (fun _ _ _ => False) ?hown (fun _ _ _ _ _ h _ _ => h) ⟨hT3, hR3, hr32, hb3, Nat.le_refl _⟩ ?a1 ?assign ?body ?done ?stop
  case hown =>
    rintro pre X Y row ⟨g1, g2, g3, g4, g5⟩ hg hr
    have hne : ∀ {b : Nat} {cs : Array Value} {T : TypeId}, Blk X b cs T → row ≠ some b := fun hb e => by
      obtain ⟨_, o, h4, h5⟩ := hr _ e
      unfold Blk at hb
      rw [hb] at h4
      cases h4
      simp [Obj.isCells] at h5
    refine ⟨g1.chg (Chg.of_grown hg) (fun e => hne g1 e), g2.chg (Chg.of_grown hg) (fun e => hne g2 e), g3, g4.grown hg (Nat.le_trans (Nat.le_refl _) g4.size) (fun k hk => ?_), Nat.le_trans g5 hg.size⟩
    have := (hr k hk).1
    have := hb3.size
    omega
  case assign =>
    intro l x W K hK
    gi_wp2
    exact hK
  case stop =>
    rintro D c pre W _ _ h _
    exact h.elim
  case body =>
    rintro l pre x W ⟨g1, g2, g3, g4, g5⟩ hpl
    obtain ⟨h, hh⟩ := x
    obtain ⟨r, hr⟩ : ∃ r, r = pre.foldl (fun r (h : Fin 16) => nibC r h.val) r0 := ⟨_, rfl⟩
    rw [← hr] at g2 g3
    obtain ⟨q, hq⟩ : ∃ q, q = r ^^^ h := ⟨_, rfl⟩
    have x1 : bits .xor .u32 (r : Int) (h : Int) = (q : Int) := by rw [bits_xor r h g3 (by omega), hq]
    have hq32 : q < 4294967296 := by rw [hq]; exact Nat.xor_lt_two_pow (n := 32) g3 (by omega)
    obtain ⟨ix, hix⟩ : ∃ ix, ix = q % 16 := ⟨_, rfl⟩
    have x2 : bits .and .u32 (q : Int) 15 = (ix : Int) := by rw [bits_and15 q hq32, hix]
    have hix16 : ix < 16 := by omega
    obtain ⟨s, hs⟩ : ∃ s, s = r / 16 := ⟨_, rfl⟩
    have x3 : (r : Int) / 16 = (s : Int) := by omega
    obtain ⟨t, ht⟩ : ∃ t, t = tabC ix := ⟨_, rfl⟩
    obtain ⟨z, hz⟩ : ∃ z, z = s ^^^ t := ⟨_, rfl⟩
    have x4 : bits .xor .u32 (s : Int) (t : Int) = (z : Int) := by rw [bits_xor s t (by omega) (by rw [ht]; exact tabC_lt _), hz]
    have hz32 : z < 4294967296 := by rw [hz, hs, ht]; exact Nat.xor_lt_two_pow (n := 32) (by omega) (tabC_lt _)
    have hzq : (pre ++ [(⟨h, hh⟩ : Fin 16)]).foldl (fun r (h : Fin 16) => nibC r h.val) r0 = z := by
      rw [List.foldl_append, ← hr, hz, hs, ht, hix, hq]
      show nibC r h = _
      unfold nibC tabC
      rw [Nat.mod_mod]
    have ct : W.cell? ⟨tk, ix, none⟩ = some (.int .u32 t) := by rw [g1.cellAt (i := ix) (tabArr_get hix16), if_pos hix16, ht]
    have cr : W.cell? ⟨tk + 1, 0, none⟩ = some (.int .u32 r) := g2.cellAt rfl
    have g2' := g2.below (Below.refl (tk + 2) W).drew (by omega)
    have g1' := g1.below (Below.refl (tk + 2) W).drew (by omega)
    have hput := g2'.set 0 (.int .u32 (z : Nat))
    have hfr := g2'.frozen 0
    have hlr := g2.lt
    replace hr := Lib.hid hr
    replace hq := Lib.hid hq
    replace hix := Lib.hid hix
    replace hs := Lib.hid hs
    replace ht := Lib.hid ht
    replace hz := Lib.hid hz
    replace hzq := Lib.hid hzq
    replace g1' := Lib.hid g1'
    replace hput := Lib.hid hput
    have hgr : Hid (Below w.heap.size w (W.drew.setCell ⟨tk + 1, 0, none⟩ (.int .u32 (z : Nat)))) := Lib.hid (g4.drew.setCell (p := ⟨tk + 1, 0, none⟩) (by show w.heap.size ≤ tk + 1; omega) _)
    have hkf : Hid (KeepT (fun i => i < w.heap.size ∨ i = bx) W (W.drew.setCell ⟨tk + 1, 0, none⟩ (.int .u32 (z : Nat)))) := Lib.hid (by
      have hc : Chg (fun k => k = tk + 1) W (W.drew.setCell ⟨tk + 1, 0, none⟩ (.int .u32 (z : Nat))) := ((Chg.refl _ W).drew).setCell _ _ (fun _ => rfl)
      have := hbx2.out
      refine ⟨hc.size, fun k hk => ?_⟩
      by_cases hkW : k < W.heap.size
      · exact hc.block k hkW (fun e => by rcases hk with hk | hk <;> omega)
      · rw [Array.getElem?_eq_none (by simp [World.setCell]; first | omega | (show W.heap.size ≤ k; omega)), Array.getElem?_eq_none (by omega)])
    have hkk : Hid (KeepsFrom w3.heap.size W (W.drew.setCell ⟨tk + 1, 0, none⟩ (.int .u32 (z : Nat)))) := Lib.hid (by
      have hc : Chg (fun k => k = tk + 1) W (W.drew.setCell ⟨tk + 1, 0, none⟩ (.int .u32 (z : Nat))) := ((Chg.refl _ W).drew).setCell _ _ (fun _ => rfl)
      have h1 := hbx2.out
      have h2 := hz3.out
      exact ⟨hc.size, fun k o hB hk _ => by rw [hc.block k (Array.getElem?_eq_some_iff.1 hk).1 (fun e => by omega)]; exact hk⟩)
    clear g1 g2 g2'
    gi_wp2
    refine round_region_tree _ (fun wx => wx.cell? ⟨tk + 1, 0, none⟩ = some (.int .u32 r) ∧ wx.cell? ⟨tk, ix, none⟩ = some (.int .u32 t)) 9 10 (by kernel_rfl) rfl (by kernel_rfl) (fun d _ _ _ _ h => by cases d <;> exact h) (fun h => by obtain ⟨a, w, h⟩ := h; exact h) (by kernel_rfl) (⟨cr, ct⟩) (fun opz T hOps hT hTok hHeld => ?_)
    (refine wpTree_q 0 hTok hOps (by kernel_rfl) rfl rfl ⟨?_, ?_, ?_⟩; rotate_left; (focus (intro wx hSx; (try dsimp only at hSx); go_simp; (try with_reducible rfl))); (simp only [Act.put, List.setIfInBounds_toArray, List.set_cons_zero, List.set_cons_succ]))
    (refine wpTree_q 1 hTok hOps (by kernel_rfl) rfl rfl ⟨?_, ?_, ?_⟩; rotate_left; (focus (intro wx hSx; (try dsimp only at hSx); go_simp; (try with_reducible rfl))); (simp only [Act.put, List.setIfInBounds_toArray, List.set_cons_zero, List.set_cons_succ]))
    (refine wpTree_q 2 hTok hOps (by kernel_rfl) rfl rfl ⟨?_, ?_, ?_⟩; rotate_left; (focus (intro wx hSx; (try dsimp only at hSx); go_simp; (try with_reducible rfl))); (simp only [Act.put, List.setIfInBounds_toArray, List.set_cons_zero, List.set_cons_succ]))
    (refine wpTree_q 3 hTok hOps (by kernel_rfl) rfl rfl ⟨?_, ?_, ?_⟩; rotate_left; (focus (intro wx hSx; (try dsimp only at hSx); go_simp; (try with_reducible rfl))); (simp only [Act.put, List.setIfInBounds_toArray, List.set_cons_zero, List.set_cons_succ]))
    (refine wpTree_q 4 hTok hOps (by kernel_rfl) rfl rfl ⟨?_, ?_, ?_⟩; rotate_left; (focus (intro wx hSx; (try dsimp only at hSx); go_simp; (try with_reducible rfl))); (simp only [Act.put, List.setIfInBounds_toArray, List.set_cons_zero, List.set_cons_succ]))
    (refine wpTree_q 5 hTok hOps (by kernel_rfl) rfl rfl ⟨?_, ?_, ?_⟩; rotate_left; (focus (intro wx hSx; (try dsimp only at hSx); go_simp; (try with_reducible rfl))); (simp only [Act.put, List.setIfInBounds_toArray, List.set_cons_zero, List.set_cons_succ]))
    (refine wpTree_qg 6 hTok hOps (by kernel_rfl) rfl rfl ⟨?_, ?_, ?_⟩; rotate_left; (focus (intro wx hSx; (try dsimp only at hSx); go_simp; rw [if_pos (by omega)])); (simp only [Act.put, List.setIfInBounds_toArray, List.set_cons_zero, List.set_cons_succ]))
    (refine wpTree_q 7 hTok hOps (by kernel_rfl) rfl rfl ⟨?_, ?_, ?_⟩; rotate_left; (focus (intro wx hSx; (try dsimp only at hSx); go_simp; (try with_reducible rfl))); (simp only [Act.put, List.setIfInBounds_toArray, List.set_cons_zero, List.set_cons_succ]))
    (refine wpTree_q 8 hTok hOps (by kernel_rfl) rfl rfl ⟨?_, ?_, ?_⟩; rotate_left; (focus (intro wx hSx; (try dsimp only at hSx); go_simp; (try with_reducible rfl))); (simp only [Act.put, List.setIfInBounds_toArray, List.set_cons_zero, List.set_cons_succ]))
    refine wpTree_nil hOps (by kernel_rfl) ?_
    refine hT.out _ _ ?_
    simp only [List.drop_succ_cons, List.drop_zero]
    clear hOps hT hTok hHeld
    try simp only [Act.put]
    go_wp2_with fail
    gi_wp2
    exact ⟨hkk.out, hkf.out, ⟨g1'.out.set_other (p := ⟨tk + 1, 0, none⟩) (by simp) _, by rw [hzq.out]; exact hput.out, by rw [hzq.out]; exact hz32, hgr.out, Nat.le_trans g5 hkk.out.size⟩⟩
  case done =>
    rintro D xs W hD rfl ⟨g1, g2, g3, g4, g5⟩ hK
    rw [foldl_halves] at g2 g3
    obtain ⟨r, hr⟩ : ∃ r, r = extC r0 bs := ⟨_, rfl⟩
    rw [← hr] at g2 g3
    have cr : W.cell? ⟨tk + 1, 0, none⟩ = some (.int .u32 r) := g2.cellAt rfl
    have hn : bits BinOp.xor IntKind.u32 IntKind.u32.max (r : Int) = ((4294967295 - r : Nat) : Int) := not_u32 r g3
    have hst0 : Below w.heap.size w W := g4
    have hMk := marks_one (B := w.heap.size) (w := W) (D := D) (by have := hb3.size; omega) hK
    replace hr := Lib.hid hr
    replace hn := Lib.hid hn
    clear g1 g2 hK hst hd hd3 hT3 hR3
    dsimp only
    go_wp2_with fail
    refine leavesM_marks _ _ hMk g4.size (fun w' hs => ?_)
    refine ⟨.int .u32 (4294967295 - r : Nat), by simp [results, Try.results58, go_sem, hn.out], ?_, hst0.trans hs.below⟩
    rw [hr.out, hr0.out]
theorem sumC_eq (bs : List UInt8) : 4294967295 - extC (4294967295 - 0) bs = sumC bs := rfl
theorem sum_any (ao : Option Addr) (cap : Nat) (bs : List UInt8) (w : World) (hd : SlA w.heap.size 1 EU w ao cap bs) :
    Calls Try.prog 38 #[.slice ao bs.length cap] w fun e w' => e = .returned (.int .u32 (sumC bs : Nat)) ∧ Below w.heap.size w w' := by
  have h := extend_any 0 (by decide) ao cap bs w hd
  rw [sumC_eq] at h
  generalize sumC bs = s at h ⊢
  generalize bs.length = m at h ⊢
  replace h := Lib.hid h
  clear hd
  go_enter Try.func38, Try.ntmps38
  go_wp2_with fail
  refine h.out.mono ?_
  rintro e w1 ⟨rfl, hb1⟩
  dsimp only
  go_wp2_with fail
  go_ret
  exact ⟨rfl, hb1⟩
end Go.Proofs.Ytjgiphoolfhlmaa

/- Sums of bytes: the document's, bit by bit. -/
namespace Go.Proofs.Ytjgiphoolfhlmaa
open Go.RowKit
attribute [local go_sem] Oper.semAt_some
set_option linter.unusedVariables false
set_option linter.unusedSimpArgs false

def bitsK (r x k : Nat) : Nat := (List.range k).foldl (fun r k => bitC r (x / 2 ^ k % 2)) r
theorem bitsK_succ (r x k : Nat) : bitsK r x (k + 1) = bitC (bitsK r x k) (x / 2 ^ k % 2) := by
  unfold bitsK
  rw [List.range_succ, List.foldl_append]
  rfl
theorem bitsK_lt {r x : Nat} (h : r < 4294967296) : ∀ k, bitsK r x k < 4294967296
  | 0 => h
  | k + 1 => by rw [bitsK_succ]; exact bitC_lt (bitsK_lt h k)
theorem not_u32' (a : Nat) (ha : a < 4294967296) : bits BinOp.xor IntKind.u32 (a : Int) 4294967295 = ((4294967295 - a : Nat) : Int) := by
  have h := bits_xor a 4294967295 ha (by decide)
  rw [Nat.xor_comm, xor_all a ha] at h
  exact h

set_option maxRecDepth 100000 in
set_option maxHeartbeats 4000000 in
theorem rextend_any (ao : Option Addr) (cap : Nat) (bs : List UInt8) (w : World) {B : Nat} (hd : SlA B 1 EU w ao cap bs) :
    Calls Try.prog 54 #[.int .u32 0, .slice ao bs.length cap] w fun e w' => e = .returned (.int .u32 (sumC bs : Nat)) ∧ w' = w := by
  have hlen := hd.len
  obtain ⟨m, hm⟩ : ∃ m, m = bs.length := ⟨_, rfl⟩
  rw [← hm] at hlen ⊢
  obtain ⟨S, hS⟩ : ∃ S, S = sumC bs := ⟨_, rfl⟩
  rw [← hS]
  replace hS := Lib.hid hS
  replace hm := Lib.hid hm
  have hn0 : bits BinOp.xor IntKind.u32 0 4294967295 = ((4294967295 : Nat) : Int) := not_u32' 0 (by decide)
  go_enter Try.func54, Try.ntmps54
  go_wp2_with fail
  go_loopw [5, 6] (fun x5 x6 wr => ∃ i : Nat, i ≤ m ∧ x6 = .int .i64 i ∧ x5 = .int .u32 (extC 4294967295 (bs.take i) : Nat) ∧ wr = w) (fun _ x6 _ => m - (intOf x6).toNat)
  case atStart => exact ⟨0, Nat.zero_le _, rfl, by first | rfl | (rw [hn0]; rfl), rfl⟩
  case round =>
    obtain ⟨i, hi, rfl, rfl, hwr⟩ := hrel
    by_cases hlt : i < m
    · have hic : i < bs.length := by rw [← hm.out]; exact hlt
      obtain ⟨b1, o1, rfl, hb1, _⟩ := hd.addr (by omega)
      obtain ⟨cs, hcl, h6, h7⟩ := hd.get i hic
      obtain ⟨c, hc⟩ : ∃ c, c = bs[i].toNat := ⟨_, rfl⟩
      have hc256 : c < 256 := by rw [hc]; exact bs[i].toNat_lt
      have h8 := h6 0 (by omega)
      rw [h7, Nat.mul_one, Nat.add_zero] at h8
      have e0 : wr.cell? ⟨b1, o1 + i, none⟩ = some (.int .u8 c) := by rw [hwr, h8, hc]; rfl
      have hsn : extC 4294967295 (bs.take (i + 1)) = bitsK (extC 4294967295 (bs.take i)) c 8 := by
        rw [List.take_succ_eq_append_getElem hic, extC_snoc, ← hc, byte_bits hc256]
        rfl
      have hr32 : extC 4294967295 (bs.take i) < 4294967296 := extC_lt _ (by decide)
      obtain ⟨r, hr⟩ : ∃ r, r = extC 4294967295 (bs.take i) := ⟨_, rfl⟩
      rw [← hr] at hsn hr32 ⊢
      have d1 : decide ((i : Int) < (m : Int)) = true := by simp; omega
      replace hsn := Lib.hid hsn
      replace hr := Lib.hid hr
      replace hc := Lib.hid hc
      replace hwr := Lib.hid hwr
      clear h6 h7 h8 hcl
      go_wp2_with fail
      go_loopw [5, 7] (fun x5 x7 wx => ∃ k : Nat, k ≤ 8 ∧ x7 = .int .i64 k ∧ x5 = .int .u32 (bitsK r c k : Nat) ∧ wx = wr) (fun _ x7 _ => 8 - (intOf x7).toNat)
      case atStart => exact ⟨0, Nat.zero_le _, rfl, rfl, rfl⟩
      case round =>
        obtain ⟨k, hk, rfl, rfl, rfl⟩ := hrel
        by_cases hk8 : k < 8
        · have d2 : decide ((k : Int) < 8) = true := by simp; omega
          have hq := bitsK_lt (x := c) hr32 k
          have hsu := bitsK_succ r c k
          obtain ⟨q, hqe⟩ : ∃ q, q = bitsK r c k := ⟨_, rfl⟩
          rw [← hqe] at hq hsu ⊢
          obtain ⟨q2, hq2⟩ : ∃ q2, q2 = bitsK r c (k + 1) := ⟨_, rfl⟩
          rw [← hq2] at hsu
          replace hsu := Lib.hid hsu
          replace hqe := Lib.hid hqe
          replace hq2 := Lib.hid hq2
          have hy : (c : Int) / 2 ^ k % 4294967296 = ((c / 2 ^ k : Nat) : Int) := by
            have h1 : (c : Int) / 2 ^ k = ((c / 2 ^ k : Nat) : Int) := by rw [Int.natCast_ediv]; simp
            have h2 : c / 2 ^ k ≤ c := Nat.div_le_self _ _
            rw [h1]
            generalize c / 2 ^ k = y at h2
            omega
          have hy32 : c / 2 ^ k < 4294967296 := by have h2 : c / 2 ^ k ≤ c := Nat.div_le_self _ _; omega
          have hx : bits BinOp.xor IntKind.u32 (bits BinOp.and IntKind.u32 (q : Int) 1) (bits BinOp.and IntKind.u32 ((c : Int) / 2 ^ k % 4294967296) 1) = (((q % 2) ^^^ (c / 2 ^ k % 2) : Nat) : Int) := by
            rw [hy, bits_and1 q hq, bits_and1 _ hy32, bits_xor _ _ (by omega) (by omega)]
          obtain ⟨tv, htv⟩ : ∃ tv, tv = decide ((q + c / 2 ^ k % 2) % 2 = 1) := ⟨_, rfl⟩
          have hT : (bits BinOp.xor IntKind.u32 (bits BinOp.and IntKind.u32 (q : Int) 1) (bits BinOp.and IntKind.u32 ((c : Int) / 2 ^ k % 4294967296) 1) == 1) = tv := by
            rw [hx, htv]
            rcases Nat.mod_two_eq_zero_or_one q with ea | ea <;> rcases Nat.mod_two_eq_zero_or_one (c / 2 ^ k) with eb | eb
            · rw [ea, eb, decide_eq_false (by omega)]; rfl
            · rw [ea, eb, decide_eq_true (by omega)]; rfl
            · rw [ea, eb, decide_eq_true (by omega)]; rfl
            · rw [ea, eb, decide_eq_false (by omega)]; rfl
          obtain ⟨bt, hbt⟩ : ∃ bt : Int, bt = bits BinOp.xor IntKind.u32 (bits BinOp.and IntKind.u32 (q : Int) 1) (bits BinOp.and IntKind.u32 ((c : Int) / 2 ^ k % 4294967296) 1) := ⟨_, rfl⟩
          have hbt' := hbt.symm
          rw [hbt'] at hT
          clear hbt hy hx
          have hx4 := bits_xor (q / 2) polyC (by omega) (by decide)
          rw [show ((q / 2 : Nat) : Int) = (q : Int) / 2 by omega, show ((polyC : Nat) : Int) = 2197175160 from rfl] at hx4
          cases tv with
          | true =>
            have he : q2 = q / 2 ^^^ polyC := by
              rw [hsu.out]
              unfold bitC
              rw [if_pos (of_decide_eq_true htv.symm)]
            replace he := Lib.hid he
            replace htv := Lib.hid htv
            replace hx4 := Lib.hid hx4
            go_wp2_with fail
            all_goals go_roundw
            all_goals first
              | (case rel => exact ⟨k + 1, by omega, by go_num, by rw [hx4.out, ← he.out, hq2.out], trivial⟩)
              | (case measure => simp [intOf]; omega)
          | false =>
            have he : q2 = q / 2 := by
              rw [hsu.out]
              unfold bitC
              rw [if_neg (of_decide_eq_false htv.symm), Nat.xor_zero]
            have he2 : ((q2 : Nat) : Int) = (q : Int) / 2 := by omega
            replace he := Lib.hid he
            replace he2 := Lib.hid he2
            replace htv := Lib.hid htv
            clear hx4
            go_wp2_with fail
            all_goals go_roundw
            all_goals first
              | (case rel => exact ⟨k + 1, by omega, by go_num, by rw [← he2.out, hq2.out], trivial⟩)
              | (case measure => simp [intOf]; omega)
        · obtain rfl : k = 8 := by omega
          have h9 := hsn.out
          go_wp2_with fail
          go_roundw
          case rel => exact ⟨i + 1, by omega, by go_num, by rw [hsn.out], hwr.out⟩
          case measure => simp [intOf]; omega
    · obtain rfl : i = m := by omega
      have d9 : decide ((i : Int) < (i : Int)) = false := by simp
      have hfin : extC 4294967295 (bs.take i) = extC 4294967295 bs := by rw [List.take_of_length_le (by rw [hm.out]; exact Nat.le_refl _)]
      rw [hfin]
      have hr32 : extC 4294967295 bs < 4294967296 := extC_lt _ (by decide)
      have hsm : S = 4294967295 - extC 4294967295 bs := hS.out
      obtain ⟨r, hr⟩ : ∃ r, r = extC 4294967295 bs := ⟨_, rfl⟩
      rw [← hr] at hr32 hsm ⊢
      have hn := not_u32' r hr32
      rw [← hsm] at hn
      replace hn := Lib.hid hn
      clear hfin hsm hr
      go_wp2_with fail
      go_ret
      exact ⟨by rw [hn.out]; rfl, rfl⟩
end Go.Proofs.Ytjgiphoolfhlmaa
