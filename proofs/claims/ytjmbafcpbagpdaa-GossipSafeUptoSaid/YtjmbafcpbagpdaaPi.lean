/- Progress: the walk of ProgressKeeps. -/
import Derived.RangeFuncNested
import Derived.RangeFuncBound
import Derived.RangeFuncCalls
import Derived.RangeFuncLeaves
import Derived.RangeFuncFrom
import Derived.Shelf.Abstract
import Derived.Shelf.RegionOpen
import Derived.WalkKit
import Derived.OwnWalkIn
import Derived.TacticsInMore
import Derived.LoopNIn
import Derived.LoopIn
import Derived.Test.YtjmbafcpbagpdaaPh
import Derived.Lib.Hide
namespace Go.Proofs.Ytjmbafcpbagpdaa
open Go.RowKit Go.Maps Go.Shelf
attribute [local go_sem] Oper.semAt_some
set_option linter.unusedVariables false
set_option linter.unusedSimpArgs false

theorem pall_nil (w : World) : Calls Try.prog 26 #[.pointer none] w fun e w' => e = .returned (.func (.func 36) #[] #[.pointer (some ⟨w.heap.size, 0, none⟩)]) ∧ w' = w.alloc (.cells #[.pointer none] 41) := by
  go_enter Try.func26, Try.ntmps26
  go_wp2
  go_ret
  exact ⟨rfl, rfl⟩

set_option maxRecDepth 100000 in
theorem pall1_nil (F : Fence) (n : Nat) (h26 : F.fn 36) (hro : F.round = none) (l Bq : Nat) (W : World) (hB : W.cell? ⟨Bq, 0, none⟩ = some (.pointer none)) :
    CallsIn F n Try.prog 36 #[.func (.yield l) #[] #[], .pointer (some ⟨Bq, 0, none⟩)] W fun e W' => (∃ v, e = .returned v) ∧ W' = W := by
  have hlt : Bq < W.heap.size := World.lt_of_cell hB
  refine callsIn_of_wp Try.func36 rfl h26 ?_ hro
  simp only [Try.ntmps36, List.size_toArray, List.length_cons, List.length_nil, Nat.reduceAdd, Nat.reduceSub, Array.replicate_succ, Array.replicate_zero, List.push_toArray, List.append_toArray, List.nil_append, List.cons_append]
  gi_wp2
  refine bodyPost_ret (results_none rfl _ _ _) rfl ?_
  exact ⟨⟨_, rfl⟩, rfl⟩

theorem pall_stops (F : Fence) (n : Nat) (h26 : F.fn 36) (hro : F.round = none) (Bq : Nat) (w : World) (hBl : Bq < w.heap.size) (hB : w.cell? ⟨Bq, 0, none⟩ = some (.pointer none)) :
    SeqStopsK F n Try.prog 36 #[.pointer (some ⟨Bq, 0, none⟩)] (fun x : TCount => #[Value.agg #[.int .i64 x.fS.fLoc, .int .i64 x.fS.fT.fEpoch, .int .i64 x.fS.fT.fRound, .int .i64 x.fN]]) (fun _ _ => True)
      (fun ys => ys = []) (fun _ => False) 0 w := fun l J Jx W hW hJ _ hY h0 =>
  (pall1_nil F n h26 hro l Bq W ((hW.cell (p := ⟨Bq, 0, none⟩) hBl).trans hB)).mono fun e W' ⟨he, hj⟩ => ⟨he, .inl ⟨[], rfl, by rw [hj]; exact h0⟩⟩

/-- A range over a function that runs no round. -/
theorem prange_none {P : Program} {α : Type} {F : Fence} {n : Nat} {g : Operand} {ps : Array Tmp} {assign body : Code} {Q : Exit → Act → World → Prop} {a : Act} {w : World}
    (hro : F.round = none) (h1 : 1 ≤ n) {gf : Nat} {lb : Array Value} (hg : a.eval g = .func (.func gf) #[] lb) (hFg : F.fn gf) (eg : ∀ args w, (callFunc gf args).run P w = .ok (.enter gf args) w)
    {encs : α → Array Value} {w0 : World} (hseq : SeqStopsK F (n - 1) P gf lb encs (fun _ _ => True) (fun ys => ys = []) (fun _ => False) 0 w0) (hb0 : Below w0.heap.size w0 w) (hps : ∀ x, (encs x).size = ps.size)
    (hsk : ∀ l act W (K : Act → World → Prop), K act W → assign.wpIn (F.inRound l) (n - 1 - 1) P (Exit.then K (fun _ _ _ => False)) act W)
    (I : World → Prop) (hI : OwnFrom w.heap.size (fun (_ : List α) W => I W)) (h0 : I w)
    (hdone : ∀ (D : Nat) (W : World), w.heap.size ≤ D → I W → W.heap[D]? = some (.deferred (some [])) → Q .normal { a with defers := { target := .collected D, args := #[] } :: a.defers } W) :
    (Code.rangeFunc g ps assign body).wpIn F n P Q a w :=
  wpIn_rangeFunc_ownF (α := α) (encs := encs) hro h1 hg hFg eg hseq (fun _ _ => trivial) (fun _ _ _ _ _ _ _ _ => trivial) hb0 hps (fun _ W => I W) (fun _ _ _ => False) hI (fun _ _ _ _ _ hs _ _ => hs) h0
    (fun x => { tmps := (ps.zip (encs x)).foldl (fun t (p, v) => t.setIfInBounds p v) a.tmps, defers := [] })
    (fun l x W K hK => hsk l _ W K hK) (fun l pre x W _ hlt => absurd hlt (Nat.not_lt_zero _)) (fun D xs W h1 _ h3 h4 => hdone D W h1 h3 h4) (fun D c pre W _ hs => hs.elim)

theorem tcount_nil (s : TStamp) (w : World) : Calls Try.prog 45 #[.pointer none, mkS s] w fun e w' => e = .returned (.int .i64 0) ∧ Below w.heap.size w w' := by
  obtain ⟨l, ⟨e, r⟩⟩ := s
  unfold mkS
  dsimp only
  go_enter Try.func45, Try.ntmps45
  go_wp2_with fail
  go_ret
  first
    | exact ⟨rfl, Below.refl _ _⟩
    | exact ⟨rfl, (Below.refl _ _).alloc (Nat.le_refl _) _⟩

theorem imp_ops2 {w W : World} {ao : Option Addr} {cap : Nat} {xs : List TOp} (h : SlA w.heap.size 7 (ROp w.heap.size) w ao cap xs) (hb : Below w.heap.size w W) : SlA W.heap.size 7 (ROp W.heap.size) W ao cap xs := h.imp hb hb.size (fun _ _ _ h => h.imp hb hb.size)
def encK (x : TCount) : List Value := [.int .i64 x.fS.fLoc, .int .i64 x.fS.fT.fEpoch, .int .i64 x.fS.fT.fRound, .int .i64 x.fN]
theorem encK_len (x : TCount) : (encK x).length = 4 := rfl
theorem encK_one (x : TCount) : ∀ u ∈ encK x, u.oneCell' = true := by
  intro u hu
  simp only [encK, List.mem_cons, List.not_mem_nil, or_false] at hu
  rcases hu with rfl | rfl | rfl | rfl <;> rfl
theorem infoK : (Try.prog.info? 57).map (fun i => (i.zero, i.size, i.bytes)) = some (some (.agg #[.int .i64 0, .int .i64 0, .int .i64 0, .int .i64 0]), 4, 32) := by kernel_rfl

theorem own_ne_map {enc : TCount → List Value} {w : World} {base mb : Nat} {v : Value} {L : List TCount} {es : List (TStamp × Value)} (h : OwnL enc w base 57 4 v L) (hM : MapL Try.prog 47 klS wfS w mb es) : ∀ g, v.ownBlock = some g → ¬ g = mb := fun g e1 e2 => by
  rcases h.form with ⟨h4, _⟩ | ⟨g', cap2, cells, h4, h5, _⟩
  · rw [h4] at e1; cases e1
  · rw [h4] at e1
    obtain rfl : g' = g := by simpa [Value.ownBlock] using e1
    exact hM.ne_blk h5 e2.symm
theorem rcount_all {B B' : Nat} {w w' : World} {la : Option Addr} {lc : Nat} {l : List TCount} (h : SlA B 4 (RCount B) w la lc l) : ∀ x ∈ l, RCount B' w' (encK x) x := fun x hx => by
  obtain ⟨j, hj, rfl⟩ := List.getElem_of_mem hx
  obtain ⟨b2, off2, rfl, _, _⟩ := h.addr (by omega)
  obtain ⟨_, _, _, _, h1, h2, h3, h4⟩ := RCount.at h hj rfl
  exact ⟨rfl, h1, h2, h3, h4⟩

end Go.Proofs.Ytjmbafcpbagpdaa
