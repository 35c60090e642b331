/- A region in a round of a range over a function: by the plain laws, where no operation is a defer. -/
import Derived.RangeFuncNested
import Derived.RangeFuncCalls
import Derived.OrdersIn
import Derived.TacticsIn
import Derived.Test.YtmoengfpbgpnfaaBaseA
namespace Go
variable {P : Program} {ops : Array Oper} {Q : Exit → Act → World → Prop} {n : Nat}

theorem rowsIn_round {n : Nat} {row : String} {args : Array Value} {w : World} {R : Value → World → Prop} (l : Nat) (h : Rows P row args w R) : RowsIn (Fence.wide.inRound l) n P row args w R :=
  fun c cs _ => let ⟨v, w', r, s⟩ := h c cs; ⟨v, w', r, stepsIn_wide.2 s⟩

theorem Oper.wpIn_of_wp {o : Oper} {a : Act} {w : World} {K : Act → World → Prop} (l : Nat) (hd : ∀ c, o.op ≠ .defer c) (h : o.wp P a w K Q) : o.wpIn (Fence.wide.inRound l) n P a w K Q := by
  refine ⟨fun f _ => trivial, ?_⟩
  rw [Fence.inRound_round, Oper.semAt_some l _ o hd]
  unfold Oper.wp at h
  generalize (execOp a.eval o).run P w = r at h
  cases r with
  | ok x w' =>
    cases x with
    | value v => exact h
    | skip => exact h
    | defer d => exact h
    | enter f args => exact ⟨(fun h => by cases h), CallsIn.inRound l (callsIn_wide.2 h)⟩
    | row row args => exact ⟨(fun h => by cases h), rowsIn_round l h⟩
    | _ => exact h.elim
  | halt x w' => cases x <;> exact h

theorem wpOpIn_of_wpOp {i : Nat} {K : Act → World → Prop} {a : Act} {w : World} (l : Nat) (hd : ∀ o ∈ ops, ∀ c, o.op ≠ .defer c) (hq : ¬ LetsOut Q) (h : wpOp P ops Q i K a w) : wpOpIn (Fence.wide.inRound l) n P ops Q i K a w := by
  unfold wpOpIn
  unfold wpOp at h
  cases ho : ops[i]? with
  | none => rw [ho] at h; exact h
  | some o =>
    rw [ho] at h
    simp only at h ⊢
    split at h
    · rename_i hw
      rw [if_pos hw]
      rcases h with h | h
      · exact Oper.wpIn_of_wp l (hd o (Array.mem_of_getElem? ho)) h
      · exact absurd h.2 hq
    · rename_i hw
      rw [if_neg hw]
      exact ⟨fun _ _ => trivial, h⟩

theorem wpAnyIn_of_wpAny {md : Region.Mode} (l : Nat) (hd : ∀ o ∈ ops, ∀ c, o.op ≠ .defer c) (hq : ¬ LetsOut Q) : ∀ (f : Nat) (listed : Array Bool) (a : Act) (w : World), wpAny P md ops Q f listed a w → wpAnyIn (Fence.wide.inRound l) n P md ops Q f listed a w
  | 0, _, _, _, h => h
  | f + 1, listed, a, w, h => ⟨h.1, fun i hi => by
      have h1 := wpOpIn_of_wpOp (n := n) l hd hq (h.2 i hi)
      exact wpOpIn_mono (fun a w h2 => wpAnyIn_of_wpAny l hd hq f _ a w h2) h1⟩

def notDefer : Op → Bool
  | .defer _ => false
  | _ => true
theorem notDefer_spec {ops : Array Oper} (h : ops.all (fun o => notDefer o.op) = true) : ∀ o ∈ ops, ∀ c, o.op ≠ .defer c := by
  intro o ho c e
  have := Array.all_eq_true_iff_forall_mem.1 h o ho
  rw [e] at this
  cases this

theorem round_region_quiet_tail {id : Nat} {a : Act} {w : World} {l : List Oper} (rd : Nat) (n0 : Nat) (hm : P.follows .mixedOrders = true) (hq : ¬ LetsOut Q) (hdf : l.toArray.all (fun o => notDefer o.op) = true) (hB : Region.lexTailB .any l.toArray n0 = true)
    (h : wpQuiet P l.toArray (fun w' => ∃ m, w' = w.drewN m) (fun a' => ∀ w', (∃ m, w' = w.drewN m) → wpList P l.toArray Q (l.drop n0) a' w') (l.take n0) a) : (Code.region id l.toArray true).wpIn (Fence.wide.inRound rd) n P Q a w := by
  simp only [Region.lexTailB, Bool.and_eq_true, decide_eq_true_eq] at hB
  obtain ⟨⟨⟨⟨hsel, hn⟩, hs⟩, hc⟩, hlex⟩ := hB
  have hn' : n0 < l.length := by simpa using hn
  have htl : (l.take n0).length = n0 := by simp; omega
  have hdl : (l.drop n0).length = l.toArray.size - n0 := by simp
  have inv0 : HeadInv .any l.toArray n0 (Array.replicate l.toArray.size false) :=
    ⟨by simp, fun j oj _ hl => (by rw [getD_replicate_false] at hl; cases hl), fun t _ ht => getD_in (by simpa using ht) (getD_replicate_false _ _)⟩
  have H := wpAnyLQ_lex (md := .any) (g := l.toArray.size - n0) hsel hs hc hn (l.take n0) 0 _ a (fun j hj => by
    have hj' : j < n0 := by rw [htl] at hj; exact hj
    simp [hj']) (by simpa using htl) inv0 (by rw [htl]; exact hlex) h
  refine wpIn_region_any hm (wpAnyIn_of_wpAny rd (notDefer_spec hdf) hq _ _ _ _ ?_)
  have := wpAny_of_headQ (Q' := Q) (g := l.toArray.size - n0) (C := fun w' => ∃ m, w' = w.drewN m) (fun listed a' w' hw' hL => by
    have := wpAny_of_seq (md := .any) (Q' := Q) (l.drop n0) n0 listed a' w' (fun j => by simp [List.getElem?_drop]) (by rw [hdl]; exact hL.1) (hL.2 w' hw')
    rwa [hdl] at this) _ _ _ { w with drawn := w.drawn + 1 } ⟨1, rfl⟩ H
  rw [htl, show n0 + (l.toArray.size - n0) = l.toArray.size by omega] at this
  exact this
end Go
