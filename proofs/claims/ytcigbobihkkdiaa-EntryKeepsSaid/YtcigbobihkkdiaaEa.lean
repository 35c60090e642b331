/- Entry: Good, of the program and of the reference. -/
import Derived.Test.YtcigbobihkkdiaaTyEntry
import Derived.Test.YtcigbobihkkdiaaBaseJ
import Derived.Test.YtcigbobihkkdiaaBaseL
import Derived.Deep.Cut
import Derived.Deep.CutRange
import Derived.Deep.CutBlock
import Derived.Test.YtcigbobihkkdiaaWq0
import Derived.Laws.StructEq
import Derived.WalkSpells
import Derived.WalkLawsBesides
namespace Go.Proofs.Ytcigbobihkkdiaa
open Go.RowKit
set_option linter.unusedVariables false
set_option linter.unusedSimpArgs false

def encE (x : TEntry) (ao : Option Addr) (cap : Nat) : Array Value := #[.int .i64 x.fKind, .int .i64 x.fRec.fProducer, .int .i64 x.fRec.fSeq, .int .i64 x.fRec.fPart, .string x.fRec.fKey, .int .u32 x.fRec.fVal, .slice ao x.fGraph.fOps.length cap, .int .i64 x.fN]
def encR (r : TRecord) : Array Value := #[.int .i64 r.fProducer, .int .i64 r.fSeq, .int .i64 r.fPart, .string r.fKey, .int .u32 r.fVal]

def bareP (r : TRecord) : Prop := r.fProducer = 0 ∧ r.fSeq = 0 ∧ r.fPart = 0 ∧ r.fKey.size = 0 ∧ r.fVal = 0
instance (r : TRecord) : Decidable (bareP r) := by unfold bareP; infer_instance
def rngP (r : TRecord) : Prop := 0 ≤ r.fProducer ∧ r.fProducer ≤ 63 ∧ 0 ≤ r.fSeq ∧ 0 ≤ r.fPart ∧ r.fPart < 8 ∧ r.fKey.size ≤ 32
instance (r : TRecord) : Decidable (rngP r) := by unfold rngP; infer_instance
def preP (x : TEntry) : Prop := 0 ≤ x.fKind ∧ x.fKind ≤ 5 ∧ 0 ≤ x.fN ∧ x.fGraph.fOps.length ≤ 16 ∧ (x.fKind = 1 ∨ bareP x.fRec) ∧ (x.fKind = 3 ∨ x.fGraph.fOps.length = 0) ∧ (x.fKind = 0 ∨ x.fKind = 1 ∨ x.fKind = 3 → x.fN = 0)
instance (x : TEntry) : Decidable (preP x) := by unfold preP; infer_instance
def insP (x : TEntry) : Prop := ∀ o ∈ x.fGraph.fOps, o.fIn.length ≤ 2
instance (x : TEntry) : Decidable (insP x) := by unfold insP; infer_instance
def goodB (x : TEntry) : Bool := decide (preP x ∧ insP x ∧ rngP x.fRec)

theorem key_zero {k : ByteArray} : (k.toList == ([] : List UInt8)) = decide (k.size = 0) := by
  have hs : k.size = k.toList.length := by rw [ByteArray.toList_eq]; rfl
  rw [hs]
  cases k.toList <;> rfl

theorem blk8 {w : World} {b : Nat} {v0 v1 v2 v3 v4 v5 v6 v7 : Value} {T : TypeId} (h : Blk w b #[v0, v1, v2, v3, v4, v5, v6, v7] T) :
    w.cell? ⟨b, 0, none⟩ = some v0 ∧ w.cell? ⟨b, 1, none⟩ = some v1 ∧ w.cell? ⟨b, 2, none⟩ = some v2 ∧ w.cell? ⟨b, 3, none⟩ = some v3 ∧ w.cell? ⟨b, 4, none⟩ = some v4 ∧ w.cell? ⟨b, 5, none⟩ = some v5 ∧ w.cell? ⟨b, 6, none⟩ = some v6 ∧ w.cell? ⟨b, 7, none⟩ = some v7 :=
  ⟨h.cellAt rfl, h.cellAt rfl, h.cellAt rfl, h.cellAt rfl, h.cellAt rfl, h.cellAt rfl, h.cellAt rfl, h.cellAt rfl⟩

theorem ops_imp {B : Nat} {w w' : World} {ao : Option Addr} {cap : Nat} {xs : List TOp} (h : SlA B 7 (ROp B) w ao cap xs) (hb : Below B w w') : SlA B 7 (ROp B) w' ao cap xs := h.imp hb (Nat.le_refl _) (fun _ _ _ h => h.imp hb (Nat.le_refl _))
theorem bad_ins {x : TEntry} (h : insP x → False) : goodB x = false := decide_eq_false fun hh => h hh.2.1
theorem bad_rng {x : TEntry} (h : rngP x.fRec → False) : goodB x = false := decide_eq_false fun hh => h hh.2.2
theorem bad_pre {x : TEntry} (h : preP x → False) : goodB x = false := decide_eq_false fun hh => h hh.1
theorem hkey {k : ByteArray} : k.toList = [] ↔ k.size = 0 := by
  have hs : k.size = k.toList.length := by rw [ByteArray.toList_eq]; rfl
  rw [hs]
  cases k.toList <;> simp

set_option maxRecDepth 100000 in
set_option maxHeartbeats 2000000 in
theorem good_any (x : TEntry) (ao : Option Addr) (cap : Nat) (w : World) (B : Nat) (hB : B ≤ w.heap.size) (hx : SlA B 7 (ROp B) w ao cap x.fGraph.fOps) :
    Calls Try.prog 11 #[.agg (encE x ao cap)] w fun e w' => e = .returned (.bool (goodB x)) ∧ Below w.heap.size w w' := by
  unfold encE
  obtain ⟨n, hn⟩ : ∃ n, n = x.fGraph.fOps.length := ⟨_, rfl⟩
  obtain ⟨g, hg⟩ : ∃ g, g = goodB x := ⟨_, rfl⟩
  have hlen := hx.len
  rw [← hn, ← hg] 
  rw [← hn] at hlen
  replace hn := Lib.hid hn
  replace hg := Lib.hid hg
  go_enter Try.func11, Try.ntmps11
  go_upto_block 0 with fail
  refine Code.wp_world ?_
  intro w1 hw1
  have hL : Blk w1 w.heap.size #[.int .i64 x.fKind, .int .i64 x.fRec.fProducer, .int .i64 x.fRec.fSeq, .int .i64 x.fRec.fPart, .string x.fRec.fKey, .int .u32 x.fRec.fVal, .slice ao n cap, .int .i64 x.fN] 29 := by rw [hw1]; exact Blk.new _ _ _
  have hb1 : Below w.heap.size w w1 := by rw [hw1]; exact below_alloc1 w _
  clear hw1
  go_cut [0, 1] from 3 to 66 (fun s0 s1 wr => s1 = .pointer (some ⟨w.heap.size, 0, none⟩) ∧ w1 = wr ∧ preP x)
  case first =>
    obtain ⟨c0, c1, c2, c3, c4, c5, c6, c7⟩ := blk8 hL
    go_wp2_with fail
    all_goals try (
      go_ret
      refine ⟨?_, hb1⟩
      have hgf : g = false := by
        rw [hg.out]
        refine bad_pre ?_
        rintro ⟨p1, p2, p3, p4, p5, p6, p7⟩
        unfold bareP at p5
        rw [← hn.out] at p4 p6
        (try simp only [hkey, bne_iff_ne, ne_eq, bne_eq_false_iff_eq] at *)
        omega
      rw [hgf]
      rfl)
    all_goals (
      go_meet
      case rel =>
        refine ⟨rfl, rfl, ?_⟩
        (try simp only [hkey, bne_iff_ne, ne_eq, bne_eq_false_iff_eq] at *)
        unfold preP bareP
        rw [← hn.out]
        refine ⟨?_, ?_, ?_, ?_, ?_, ?_, fun _ => ?_⟩ <;> omega)
  case rest =>
    obtain ⟨rfl, rfl, hpre⟩ := hcut
    obtain ⟨c0, c1, c2, c3, c4, c5, c6, c7⟩ := blk8 hL
    go_wp2_with fail
    go_loopw [68] (fun x68 wr => ∃ k : Nat, k ≤ n ∧ x68 = .int .i64 k ∧ (∀ i (h : i < x.fGraph.fOps.length), i < k → x.fGraph.fOps[i].fIn.length ≤ 2) ∧ Below w1.heap.size w1 wr) (fun x68 _ => n - (intOf x68).toNat)
    case atStart => exact ⟨0, Nat.zero_le _, rfl, fun i _ h => absurd h (by omega), Below.refl _ _⟩
    case round =>
      obtain ⟨k, hk, rfl, hall, hbr⟩ := hrel
      have hb1w := hbr.size
      have hb0w := hb1.size
      have hbw := hb1.trans (hbr.mono hb1.size)
      by_cases hkn : k < n
      · have hkx : k < x.fGraph.fOps.length := by rw [← hn.out]; exact hkn
        obtain ⟨b, off, rfl, hb, _⟩ := hx.addr (by omega)
        obtain ⟨o, hxo⟩ : ∃ o, x.fGraph.fOps[k] = o := ⟨_, rfl⟩
        obtain ⟨ao1, cap1, e0, e1, e2, e3, e4, e5, e6, _⟩ := ROp.at (ops_imp hx (hbw.mono hB)) hkx hxo
        obtain ⟨m, hm⟩ : ∃ m, m = o.fIn.length := ⟨_, rfl⟩
        rw [← hm] at e1
        replace hxo := Lib.hid hxo
        replace hm := Lib.hid hm
        have hb3 : b < wr.heap.size := by have := hbw.size; omega
        replace hall := Lib.hid hall
        by_cases hm2 : 2 < m
        · go_wp2_with fail
          go_ret
          refine ⟨?_, hbw.alloc (by omega) _⟩
          have hgf : g = false := by
            rw [hg.out]
            refine bad_ins fun hi => ?_
            have := hi _ (List.getElem_mem hkx)
            rw [hxo.out, ← hm.out] at this
            omega
          rw [hgf]
          rfl
        · go_wp2_with fail
          go_roundw
          case rel =>
            refine ⟨k + 1, by omega, by go_num, fun i h hi => ?_, hbr.alloc (by omega) _⟩
            by_cases hik : i < k
            · exact hall.out i h hik
            · obtain rfl : i = k := by omega
              rw [hxo.out, ← hm.out]
              omega
          case measure => simp [intOf]; omega
      · obtain rfl : k = n := by omega
        have hins : insP x := by
          intro o ho
          obtain ⟨i, hi, rfl⟩ := List.mem_iff_getElem.1 ho
          exact hall i hi (by rw [hn.out]; exact hi)
        obtain ⟨d0, d1, d2, d3, d4, d5, d6, d7⟩ := blk8 (hL.below hbr hL.lt)
        have hbz := hbw.alloc (by omega) (.cells #[.int .i64 x.fRec.fProducer, .int .i64 x.fRec.fSeq, .int .i64 x.fRec.fPart, .string x.fRec.fKey, .int .u32 x.fRec.fVal] 24)
        clear hL hx hbr c0 c1 c2 c3 c4 c5 c6 c7
        have hg' : g = true ↔ rngP x.fRec := by rw [hg.out, goodB]; simp only [hpre, hins, true_and, decide_eq_true_eq]
        replace hg' := Lib.hid hg'
        replace hall := Lib.hid hall
        replace hins := Lib.hid hins
        replace hpre := Lib.hid hpre
        go_wp2_with fail
        all_goals (
          go_ret
          refine ⟨?_, hbz⟩
          refine congrArg (fun b => Ending.returned (Value.bool b)) ?_
          rw [Bool.eq_iff_iff, hg'.out]
          simp only [decide_eq_true_eq, Bool.false_eq_true, false_iff, not_and, Int.not_le, Int.not_lt, rngP]
          first | omega | (constructor <;> intro hh <;> (try (refine ⟨?_, ?_, ?_, ?_, ?_, ?_⟩)) <;> omega))
end Go.Proofs.Ytcigbobihkkdiaa
