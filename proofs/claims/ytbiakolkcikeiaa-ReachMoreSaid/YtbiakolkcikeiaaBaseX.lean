/- A calm region in a round of a range over a function. -/
import Derived.Test.YtbiakolkcikeiaaBaseM
import Derived.Test.YtbiakolkcikeiaaBaseH
namespace Go
open Go.RowKit
variable {P : Program} {Q : Exit → Act → World → Prop}
theorem round_region_calm {id nn : Nat} {a : Act} {w : World} {l : List Oper} (rd : Nat) (S : World → Prop) (n : Nat) (sp : List Nat) (hm : P.follows .mixedOrders = true) (hq : ¬ LetsOut Q) (hdf : l.toArray.all (fun o => notDefer o.op) = true) (hB : Region.calmB .any l.toArray n sp = true)
    (hQ : ∀ d c a v w, Q (.panic c) (Act.put a d v) w → Q (.panic c) a w) (hS : S w.drew)
    (h : S w.drew → wpCalm P l.toArray Q S sp (fun a' w' => wpList P l.toArray Q (l.drop n) a' w') 0 (l.take n) a w.drew) : (Code.region id l.toArray true).wpIn (Fence.wide.inRound rd) nn P Q a w := by
  simp only [Region.calmB, Bool.and_eq_true, decide_eq_true_eq] at hB
  obtain ⟨⟨⟨⟨hsel, hn⟩, hs⟩, hc⟩, hlex⟩ := hB
  have hn' : n < l.length := by simpa using hn
  have htl : (l.take n).length = n := by simp; omega
  have hdl : (l.drop n).length = l.toArray.size - n := by simp
  have inv0 : HeadInv .any l.toArray n (Array.replicate l.toArray.size false) :=
    ⟨by simp, fun j oj _ hl => (by rw [getD_replicate_false] at hl; cases hl), fun t _ ht => getD_in (by simpa using ht) (getD_replicate_false _ _)⟩
  have H := wpAnyC_calm (md := .any) (g := l.toArray.size - n) hsel hs hc hn hQ (l.take n) 0 _ a _ (fun j hj => by
    have hj' : j < n := by rw [htl] at hj; exact hj
    simp [hj']) (by simpa using htl) inv0 hS (by rw [htl]; exact hlex) (h hS)
  refine wpIn_region_any hm (wpAnyIn_of_wpAny rd (notDefer_spec hdf) hq _ _ _ _ ?_)
  have := wpAny_of_headC (g := l.toArray.size - n) (fun listed a' w' hL => by
    have := wpAny_of_seq (md := .any) (Q' := Q) (l.drop n) n listed a' w' (fun j => by simp [List.getElem?_drop]) (by rw [hdl]; exact hL.1) hL.2
    rwa [hdl] at this) _ _ _ _ H
  rw [htl, show n + (l.toArray.size - n) = l.toArray.size by omega] at this
  exact this
end Go
