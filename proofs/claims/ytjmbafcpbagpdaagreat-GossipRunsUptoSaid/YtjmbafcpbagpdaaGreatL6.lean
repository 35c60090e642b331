/- Iterators over maps (lists of entries): what rounds keep; a round's regions by the plain laws. -/
import Derived.RangeFuncNested
import Derived.RangeFuncSeq
import Derived.Test.YtjmbafcpbagpdaaGreatL2
import Derived.Test.YtjmbafcpbagpdaaGreatL3
namespace Go
open Go.RowKit Go.Maps

theorem AbidesFrom.below {β : Type} {B : Nat} {J : β → World → Prop} {s : β} {W W' : World} (hJ : AbidesFrom B J) (h0 : J s W) (hb : Below W.heap.size W W') : J s W' :=
  hJ s W W' none h0 ⟨hb.os, hb.tape, hb.output, hb.size, fun i hi _ => hb.block i hi⟩ (fun r e => by cases e)
theorem AbidesFrom.turn {β : Type} {B r : Nat} {J : β → World → Prop} {s : β} {W W' : World} (hJ : AbidesFrom B J) (h0 : J s W) (hc : Chg (fun k => k = r) W W') (hr : B ≤ r) (hw : ∃ o : Obj, W.heap[r]? = some o ∧ o.isWalk = true) : J s W' :=
  hJ s W W' (some r) h0 ⟨hc.os, hc.tape, hc.output, hc.size, fun i hi hne => hc.block i hi (fun e => hne (by rw [e]))⟩ (fun r' e => by cases e; exact ⟨hr, hw⟩)
section
variable {κ : Type} {P : Program} {k : TypeId} {kl : κ → Lit} {wf : κ → Prop} {w w' : World} {b r : Nat} {es rest : List (κ × Value)}
theorem RangeL.walk (h : RangeL P k kl wf w b r es rest) : ∃ o : Obj, w.heap[r]? = some o ∧ o.isWalk = true := by
  obtain ⟨l, left, cnt, hr, _⟩ := h.own
  obtain ⟨ms, clock, since, seen, c0, h1, h2, h3, h4, h5, h6⟩ := hr
  exact ⟨_, h5, rfl⟩
theorem RangeL.walks (h : RangeL P k kl wf w b r es rest) (hk : KeepsWalks w w') : RangeL P k kl wf w' b r es rest ∧ w'.rangeLeft b r = w.rangeLeft b r := by
  obtain ⟨l, left, cnt, hr, hl, hlf, hcnt⟩ := h.own
  obtain ⟨ms, clock, since, seen, c0, h1, h2, h3, h4, h5, h6⟩ := hr
  have e1 := hk.same b _ h1 rfl
  have e2 := hk.same r _ h5 rfl
  have e3 : w'.rangeLeft b r = w.rangeLeft b r := by unfold World.rangeLeft; rw [e1, e2, h1, h5]
  exact ⟨⟨⟨l, left, cnt, ⟨ms, clock, since, seen, c0, e1, h2, h3, h4, e2, h6⟩, hl, hlf, by rw [e3]; exact hcnt⟩, h.nodup, h.wf, h.sub, h.rnodup⟩, e3⟩
end
theorem keepsWalks_chg {S : Nat → Prop} {W W' : World} (hc : Chg S W W') (hS : ∀ j, S j → j < W.heap.size → ∃ cs T f, W.heap[j]? = some (.cells cs T f)) : KeepsWalks W W' :=
  ⟨hc.size, fun j o hj ho => by
    have hl := (Array.getElem?_eq_some_iff.1 hj).1
    rw [hc.block j hl (fun h => by
      obtain ⟨cs, T, f, h2⟩ := hS j h hl
      rw [hj] at h2
      cases h2
      cases ho)]
    exact hj⟩
section
variable {P : Program} {ops : Array Oper} {Q : Exit → Act → World → Prop} {n : Nat}
theorem wpListIn_of_wpList (rd : Nat) (hq : ¬ LetsOut Q) : ∀ (rest : List Oper) (a : Act) (w : World), (∀ o ∈ rest, ∀ c, o.op ≠ .defer c) → wpList P ops Q rest a w → wpListIn (Fence.wide.inRound rd) n P ops Q rest a w
  | [], _, _, _, h => h
  | o :: rest, a, w, hd, h => by
    unfold wpListIn
    unfold wpList at h
    split at h
    · rename_i hw
      rw [if_pos hw]
      rcases h with h | h
      · exact Oper.wpIn_of_wp rd (hd o (by simp)) (Oper.wp_mono (fun a' w' h' => wpListIn_of_wpList rd hq rest a' w' (fun o' ho' => hd o' (by simp [ho'])) h') h)
      · exact absurd h.2 hq
    · rename_i hw
      rw [if_neg hw]
      exact ⟨fun _ _ => trivial, wpListIn_of_wpList rd hq rest _ _ (fun o' ho' => hd o' (by simp [ho'])) h⟩
end
end Go
namespace Go
open Go.RowKit Go.Maps
theorem ShutM.blk {B : Nat} {w w' : World} (h : ShutM B w w') {b : Nat} {cs : Array Value} {T : TypeId} (hb : Blk w b cs T) : Blk w' b cs T := (h.same b (fun x e => by
  have h2 : w.heap[b]? = some (.cells cs T (0, 0)) := hb
  rw [h2] at e
  cases e)).trans hb
theorem ShutM.chg {B : Nat} {w w' : World} (h : ShutM B w w') : Chg (fun k => ∃ x, w.heap[k]? = some (Obj.deferred x)) w w' :=
  ⟨h.below.os, h.below.tape, h.below.output, h.below.size, fun i _ hn => h.same i (fun x e => hn ⟨x, e⟩)⟩
theorem ShutM.own {α : Type} {enc : α → List Value} {B base sz : Nat} {e : TypeId} {v : Value} {xs : List α} {w w' : World} (h : ShutM B w w') (ho : OwnL enc w base e sz v xs) : OwnL enc w' base e sz v xs :=
  ho.chg h.chg (fun g e1 ⟨x, e2⟩ => by
    rcases ho.form with ⟨h4, _⟩ | ⟨g', cap2, cells, h4, h5, _⟩
    · rw [h4] at e1; cases e1
    · rw [h4] at e1
      obtain rfl : g' = g := by simpa [Value.ownBlock] using e1
      have h6 : w.heap[g']? = some (.cells cells e (0, 0)) := h5
      rw [h6] at e2
      cases e2)
theorem OwnL.grownN {α : Type} {enc : α → List Value} {base sz : Nat} {e : TypeId} {v : Value} {xs : List α} {w w' : World} {row : Option Nat} (ho : OwnL enc w base e sz v xs) (hg : w.grownBy w' row) (hr : ∀ r, row = some r → ∃ o : Obj, w.heap[r]? = some o ∧ o.isCells = false) : OwnL enc w' base e sz v xs :=
  ho.chg (Chg.of_grown hg) (fun g e1 e2 => by
    obtain ⟨o, h1, h2⟩ := hr g e2
    rcases ho.form with ⟨h4, _⟩ | ⟨g', cap2, cells, h4, h5, _⟩
    · rw [h4] at e1; cases e1
    · rw [h4] at e1
      obtain rfl : g' = g := by simpa [Value.ownBlock] using e1
      have h6 : w.heap[g']? = some (.cells cells e (0, 0)) := h5
      rw [h6] at h1
      cases h1
      cases h2)
theorem Blk.grownN {w w' : World} {b : Nat} {cs : Array Value} {T : TypeId} {row : Option Nat} (hb : Blk w b cs T) (hg : w.grownBy w' row) (hr : ∀ r, row = some r → ∃ o : Obj, w.heap[r]? = some o ∧ o.isCells = false) : Blk w' b cs T :=
  hb.chg (Chg.of_grown hg) (fun e => by
    obtain ⟨o, h1, h2⟩ := hr b e
    have h6 : w.heap[b]? = some (.cells cs T (0, 0)) := hb
    rw [h6] at h1
    cases h1
    cases h2)
theorem marks_one {B D : Nat} {w : World} (h : B ≤ D) (hK : w.heap[D]? = some (.deferred (some []))) : Marks B [{ target := .collected D, args := #[] }] w := ⟨D, rfl, h, hK, by simp, trivial⟩
section
variable {P : Program} {ops : Array Oper} {Q : Exit → Act → World → Prop} {n : Nat}
theorem wpListIn_of_wpListB (rd : Nat) (hq : ¬ LetsOut Q) {rest : List Oper} {a : Act} {w : World} (hdf : rest.all (fun o => notDefer o.op) = true) (h : wpList P ops Q rest a w) : wpListIn (Fence.wide.inRound rd) n P ops Q rest a w :=
  wpListIn_of_wpList rd hq rest a w (fun o ho c e => notDefer_spec (ops := rest.toArray) (by simpa using hdf) o (by simpa using ho) c e) h
end
end Go

/- A region that draws its order and ends in a call that the plain laws do not know (yield): the head by the plain laws, the tail by the fenced ones. -/
namespace Go
open Go.RowKit
section
variable {P : Program} {ops : Array Oper} {md : Region.Mode} {S : World → Prop} {Q : Exit → Act → World → Prop} {m : Nat}
theorem Oper.wpIn_wide_of {o : Oper} {a : Act} {w : World} {K : Act → World → Prop} (h : o.wp P a w K Q) : o.wpIn Fence.wide m P a w K Q := by
  refine ⟨fun f _ => trivial, ?_⟩
  unfold Oper.wp at h
  show o.uponIn Fence.wide m P a K Q ((execOp a.eval o).run P w)
  generalize (execOp a.eval o).run P w = r at h
  cases r with
  | ok x w' =>
    cases x with
    | value v => exact h
    | skip => exact h
    | defer d => exact h
    | enter f args => exact ⟨(fun h => by cases h), callsIn_wide.2 h⟩
    | row row args => exact ⟨(fun h => by cases h), fun c cs _ => let ⟨v, w', r, s⟩ := h c cs; ⟨v, w', r, stepsIn_wide.2 s⟩⟩
    | _ => exact h.elim
  | halt x w' => cases x <;> exact h
theorem wpOpIn_wide_of {i : Nat} {K : Act → World → Prop} {a : Act} {w : World} (hq : ¬ LetsOut Q) (h : wpOp P ops Q i K a w) : wpOpIn Fence.wide m P ops Q i K a w := by
  unfold wpOpIn
  unfold wpOp at h
  cases ho : ops[i]? with
  | none => rw [ho] at h; exact h
  | some o =>
    rw [ho] at h
    simp only at h ⊢
    split at h
    · rename_i hw
      rw [if_pos hw]
      rcases h with h | h
      · exact Oper.wpIn_wide_of h
      · exact absurd h.2 hq
    · rename_i hw
      rw [if_neg hw]
      exact ⟨fun _ _ => trivial, h⟩
theorem wpAnyIn_of_headC (hq : ¬ LetsOut Q) {n g : Nat} {L : Array Bool → Act → World → Prop} (hL : ∀ listed a w, L listed a w → wpAnyIn Fence.wide m P md ops Q g listed a w) :
    ∀ (f : Nat) (listed : Array Bool) (a : Act) (w : World), wpAnyC P md ops Q S n L f listed a w → wpAnyIn Fence.wide m P md ops Q (f + g) listed a w
  | 0, listed, a, w, h => by rw [Nat.zero_add]; exact hL _ _ _ h
  | f + 1, listed, a, w, h => by
    rw [show f + 1 + g = (f + g) + 1 by omega]
    exact ⟨fun h0 => absurd h0 h.1, fun i hi => wpOpIn_mono (fun a' w' h' => wpAnyIn_of_headC hq hL f _ a' w' h'.2) (wpOpIn_wide_of hq (h.2 i hi).2)⟩
theorem wpAnyIn_of_seq : ∀ (l : List Oper) (k : Nat) (listed : Array Bool) (a : Act) (w : World), (∀ j, l[j]? = ops[k + j]?) →
    Region.seqB md ops l.length k listed = true → wpListIn Fence.wide m P ops Q l a w → wpAnyIn Fence.wide m P md ops Q l.length listed a w
  | [], _, _, _, _, _, hB, h => ⟨by simpa [Region.seqB] using hB, h⟩
  | o :: l, k, listed, a, w, hl, hB, h => by
    have h0 : ops[k]? = some o := by simpa using (hl 0).symm
    simp only [List.length_cons, Region.seqB, Bool.and_eq_true, decide_eq_true_eq] at hB
    refine ⟨fun h1 => (by rw [hB.1] at h1; cases h1), fun i hi => ?_⟩
    rw [hB.1] at hi
    obtain rfl : i = k := by simpa using hi
    have hw : wpOpIn Fence.wide m P ops Q i (wpListIn Fence.wide m P ops Q l) a w := by unfold wpOpIn; simp only [h0]; exact h
    exact wpOpIn_mono (fun a' w' h' => wpAnyIn_of_seq l (i + 1) _ a' w' (fun j => by have := hl (j + 1); simpa [Nat.add_assoc, Nat.add_comm 1 j] using this) hB.2 h') hw
/-- The same, but never let out. -/
def noOut (Q : Exit → Act → World → Prop) : Exit → Act → World → Prop := fun e a w => e ≠ .outgrown ∧ Q e a w
theorem noOut_lets (Q : Exit → Act → World → Prop) : ¬ LetsOut (noOut Q) := fun h => by
  obtain ⟨a, w, h⟩ := h
  exact h.1 rfl
theorem wpIn_region_tree {id : Nat} {a : Act} {w : World} {l : List Oper} (S : World → Prop) (n N : Nat) (hm : P.follows .mixedOrders = true) (hq : ¬ LetsOut Q) (hN : l.length = N)
    (hB : (Region.noSelect l.toArray && decide (n < l.toArray.size) && Region.sinkB .any l.toArray n && Region.chainB .any l.toArray n) = true)
    (hQ : ∀ d c a v w, Q (.panic c) (Act.put a d v) w → Q (.panic c) a w) (hS : S w.drew)
    (h : ∀ (ops : Array Oper) (T : Act → World → Prop), Hid (ops = l.toArray) → Hid (∀ a' w', wpListIn Fence.wide m P l.toArray Q (l.drop n) a' w' → T a' w') → TreeOk .any ops Q n → S w.drew → wpTree P .any ops Q S n T n (Array.replicate N false) a w.drew) : (Code.region id l.toArray true).wpIn Fence.wide m P Q a w := by
  simp only [Bool.and_eq_true, decide_eq_true_eq] at hB
  obtain ⟨⟨⟨hsel, hn⟩, hs⟩, hc⟩ := hB
  have hdl : (l.drop n).length = l.toArray.size - n := by simp
  have inv0 : HeadInv .any l.toArray n (Array.replicate l.length false) :=
    ⟨by simp, fun j oj _ hl => (by rw [getD_replicate_false] at hl; cases hl), fun t _ ht => getD_in (by simpa using ht) (getD_replicate_false _ _)⟩
  subst hN
  have H := h l.toArray (fun a' w' => wpListIn Fence.wide m P l.toArray Q (l.drop n) a' w') (Lib.hid rfl) (Lib.hid (fun _ _ h => h)) ⟨hsel, hs, hc, hn, hQ⟩ hS inv0 hS
  refine wpIn_region_any hm ?_
  have := wpAnyIn_of_headC hq (g := l.toArray.size - n) (fun listed a' w' hL => by
    have := wpAnyIn_of_seq (md := .any) (l.drop n) n listed a' w' (fun j => by simp [List.getElem?_drop]) (by rw [hdl]; exact hL.1) hL.2
    rwa [hdl] at this) _ _ _ _ H
  rw [show n + (l.toArray.size - n) = l.toArray.size by omega] at this
  simpa using this
/-- The same with what may be let out. -/
theorem wpIn_region_treeO {id : Nat} {a : Act} {w : World} {l : List Oper} (S : World → Prop) (n N : Nat) (hm : P.follows .mixedOrders = true) (hN : l.length = N)
    (hB : (Region.noSelect l.toArray && decide (n < l.toArray.size) && Region.sinkB .any l.toArray n && Region.chainB .any l.toArray n) = true)
    (hQ : ∀ d c a v w, Q (.panic c) (Act.put a d v) w → Q (.panic c) a w) (hS : S w.drew)
    (h : ∀ (ops : Array Oper) (T : Act → World → Prop), Hid (ops = l.toArray) → Hid (∀ a' w', wpListIn Fence.wide m P l.toArray (noOut Q) (l.drop n) a' w' → T a' w') → TreeOk .any ops (noOut Q) n → S w.drew → wpTree P .any ops (noOut Q) S n T n (Array.replicate N false) a w.drew) : (Code.region id l.toArray true).wpIn Fence.wide m P Q a w :=
  wpIn_mono (Q := noOut Q) (wpIn_region_tree S n N hm (noOut_lets Q) hN hB (fun d c a v w h => ⟨h.1, hQ d c a v w h.2⟩) hS h) (fun _ _ _ h => h.2)
end
end Go

namespace Go
open Go.RowKit Go.Maps
theorem MapL.same {κ : Type} {P : Program} {k : TypeId} {kl : κ → Lit} {wf : κ → Prop} {w w' : World} {b : Nat} {es : List (κ × Value)} (h : MapL P k kl wf w b es) (hk : ∀ o, w.heap[b]? = some o → o.isWalk = true → w'.heap[b]? = some o) : MapL P k kl wf w' b es := by
  obtain ⟨l, ho, hl⟩ := h.own
  obtain ⟨ms, clock, hb, r⟩ := ho
  exact ⟨⟨l, ⟨ms, clock, hk _ hb rfl, r⟩, hl⟩, h.nodup, h.wf⟩
theorem OwnL.same {α : Type} {enc : α → List Value} {w w' : World} {base sz : Nat} {e : TypeId} {v : Value} {xs : List α} (h : OwnL enc w base e sz v xs) (hk : ∀ b cs, base ≤ b → w.heap[b]? = some (.cells cs e (0, 0)) → w'.heap[b]? = some (.cells cs e (0, 0))) : OwnL enc w' base e sz v xs := by
  rcases h.2 with h2 | ⟨g, cap, cells, h1, h2, h3, h4⟩
  · exact ⟨h.1, .inl h2⟩
  · exact ⟨h.1, .inr ⟨g, cap, cells, h1, h2, hk _ _ h2 h3, h4⟩⟩
theorem step_lookupL {κ : Type} [DecidableEq κ] {P : Program} {ops : Array Oper} {o : Oper} {a : Act} {K : Act → World → Prop} {Q : Exit → Act → World → Prop} {E : Prop} {k e : TypeId} {mk : κ → Value} {kl : κ → Lit} {wf : κ → Prop} {w : World} {b : Nat} {es : List (κ × Value)} (hg : o.guard = none) (m y : Operand) (t : TypeId) (c : Bool) (hop : o.op = Op.lookup t m y c) (hK : KeyL P k mk kl wf) (h : MapL P k kl wf w b es) (ht : P.underlying t = some (.map k e)) {z : Value} (hz : (zeroValue e).run P w = .ok z w) {x : κ} (hx : wf x)
    (hm : a.eval m = .map (some b)) (hy : a.eval y = mk x)
    (hc : K (a.put o.dst (if c then .tuple #[(getE es x).getD z, .bool (getE es x).isSome] else (getE es x).getD z)) w) : if Region.wanted o (yielded ops a.tmps) = true then Oper.wp P o a w K Q else E := by
  have hw : Region.wanted o (yielded ops a.tmps) = true := by simp [Region.wanted, hg]
  rw [if_pos hw]
  have h1 := h.look hK ht hz hx c
  unfold Oper.wp
  simp only [execOp, hop, hm, hy]
  simp [h1, Result.andThen]
  exact hc
end Go

namespace Go
open Go.RowKit
section
variable {P : Program} {Q : Exit → Act → World → Prop} {n : Nat}
/-- A region of a round whose head only reads or calls what makes memory alone. -/
theorem round_region_below_tail {id : Nat} {a : Act} {w : World} {l : List Oper} (rd : Nat) (n0 : Nat) (hm : P.follows .mixedOrders = true) (hq : ¬ LetsOut Q) (hdf : l.toArray.all (fun o => notDefer o.op) = true) (hB : Region.lexTailB .any l.toArray n0 = true)
    (h : wpQuiet P l.toArray (fun w' => ∃ u : Wd w, w' = u.v) (fun a' => ∀ w', (∃ u : Wd w, w' = u.v) → wpList P l.toArray Q (l.drop n0) a' w') (l.take n0) a) : (Code.region id l.toArray true).wpIn (Fence.wide.inRound rd) n P Q a w := by
  simp only [Region.lexTailB, Bool.and_eq_true, decide_eq_true_eq] at hB
  obtain ⟨⟨⟨⟨hsel, hn⟩, hs⟩, hc⟩, hlex⟩ := hB
  have hn' : n0 < l.length := by simpa using hn
  have htl : (l.take n0).length = n0 := by simp; omega
  have hdl : (l.drop n0).length = l.toArray.size - n0 := by simp
  have inv0 : HeadInv .any l.toArray n0 (Array.replicate l.toArray.size false) :=
    ⟨by simp, fun j oj _ hl => (by rw [getD_replicate_false] at hl; cases hl), fun t _ ht => getD_in (by simpa using ht) (getD_replicate_false _ _)⟩
  have H := wpAnyLQ_lex (md := .any) (g := l.toArray.size - n0) hsel hs hc hn (l.take n0) 0 _ a (fun j hj => by
    have hj' : j < n0 := by rw [htl] at hj; exact hj
    simp [hj']) (by simpa using htl) inv0 (by rw [htl]; exact hlex) h
  refine wpIn_region_any hm (wpAnyIn_of_wpAny rd (notDefer_spec hdf) hq _ _ _ _ ?_)
  have := wpAny_of_headQ (Q' := Q) (g := l.toArray.size - n0) (C := fun w' => ∃ u : Wd w, w' = u.v) (fun listed a' w' hw' hL => by
    have := wpAny_of_seq (md := .any) (Q' := Q) (l.drop n0) n0 listed a' w' (fun j => by simp [List.getElem?_drop]) (by rw [hdl]; exact hL.1) (hL.2 w' hw')
    rwa [hdl] at this) _ _ _ { w with drawn := w.drawn + 1 } (Wd.mkDrew w) H
  rw [htl, show n0 + (l.toArray.size - n0) = l.toArray.size by omega] at this
  exact this
end
end Go
