/- A region that draws its order: a head whose operations are quiet while S holds, or of the spine, walked in an order of our choice; and a tail in a forced order behind it. -/
import Derived.Test.YtjigbkklgekjlaaBaseQ
namespace Go
section
variable {P : Program} {ops : Array Oper} {md : Region.Mode} {S : World → Prop} {Q : Exit → Act → World → Prop}

def wpCalmO (P : Program) (ops : Array Oper) (Q : Exit → Act → World → Prop) (S : World → Prop) (sp : List Nat) (L : Act → World → Prop) : List (Nat × Oper) → Act → World → Prop
  | [], a, w => L a w
  | x :: r, a, w =>
    if sp.contains x.1 = true then wpOp P ops Q x.1 (fun a' w' => S w' ∧ wpCalmO P ops Q S sp L r a' w') a w
    else ∃ v, YieldsIf P ops S x.2 v a ∧ wpCalmO P ops Q S sp L r (a.put x.2.dst v) w

def Region.calmHeadO (md : Region.Mode) (ops : Array Oper) (sp : List Nat) (g n : Nat) : List (Nat × Oper) → Array Bool → Bool
  | [], listed => Region.seqB md ops g n listed
  | x :: r, listed => (if sp.contains x.1 = true then decide (Region.ready md ops listed = [x.1]) else (Region.ready md ops listed).contains x.1 && Region.free md ops listed x.1) && Region.calmHeadO md ops sp g n r (listed.setIfInBounds x.1 true)
def Region.calmOB (md : Region.Mode) (ops : Array Oper) (n : Nat) (q : List (Nat × Oper)) (sp : List Nat) : Bool :=
  Region.noSelect ops && decide (n < ops.size) && decide (q.length = n) && q.all (fun x => decide (x.1 < n)) && Region.sinkB md ops n && Region.chainB md ops n && Region.calmHeadO md ops sp (ops.size - n) n q (Array.replicate ops.size false)

theorem wpAnyC_calmO {n g : Nat} {sp : List Nat} {Lq : Act → World → Prop} (hsel : Region.noSelect ops = true) (hs : Region.sinkB md ops n = true) (hc : Region.chainB md ops n = true) (hn : n < ops.size)
    (hQ : ∀ d c a v w, Q (.panic c) (Act.put a d v) w → Q (.panic c) a w) :
    ∀ (l : List (Nat × Oper)) (listed : Array Bool) (a : Act) (w : World), (∀ x ∈ l, ops[x.1]? = some x.2 ∧ x.1 < n) → HeadInv md ops n listed → S w →
    Region.calmHeadO md ops sp g n l listed = true → wpCalmO P ops Q S sp Lq l a w →
    wpAnyC P md ops Q S n (fun listed' a' w' => Region.seqB md ops g n listed' = true ∧ Lq a' w') l.length listed a w
  | [], listed, a, w, _, _, _, hB, h => ⟨by simpa [Region.calmHeadO] using hB, h⟩
  | x :: l, listed, a, w, hl, inv, hS, hB, h => by
    obtain ⟨h0, hkn⟩ := hl x (List.mem_cons_self ..)
    have hl' : ∀ y ∈ l, ops[y.1]? = some y.2 ∧ y.1 < n := fun y hy => hl y (List.mem_cons_of_mem _ hy)
    rw [wpCalmO] at h
    simp only [Region.calmHeadO, Bool.and_eq_true] at hB
    obtain ⟨hB1, hB'⟩ := hB
    by_cases hsp : sp.contains x.1 = true
    · rw [if_pos hsp] at h hB1
      have hB1 := of_decide_eq_true hB1
      have hr' : x.1 ∈ Region.ready md ops listed := by rw [hB1]; simp
      refine ⟨by rw [hB1]; simp, fun i hi => ?_⟩
      rw [hB1] at hi
      obtain rfl : i = x.1 := by simpa using hi
      exact ⟨hkn, wpOp_mono (fun a' w' h' => ⟨h'.1, wpAnyC_calmO hsel hs hc hn hQ l _ a' w' hl' (inv.set hr' hkn) h'.1 hB' h'.2⟩) h⟩
    · rw [if_neg hsp] at h hB1
      simp only [Bool.and_eq_true] at hB1
      have hr' : x.1 ∈ Region.ready md ops listed := by simpa using hB1.1
      obtain ⟨v, hy, hK⟩ := h
      exact wpAnyC_first h0 (Region.noSelect_spec hsel) hs hc hn hkn (fun c a w => hQ _ c a v w) (fun listed' a' w' hL => seqB_ready hL.1) l.length listed a w inv (Region.free_spec h0 hB1.2) hr' hy hS
        (wpAnyC_calmO hsel hs hc hn hQ l _ _ w hl' (inv.set hr' hkn) hS hB' hK)

theorem wp_region_calmO {id : Nat} {a : Act} {w : World} {l : List Oper} (S : World → Prop) (n : Nat) (q : List Nat) (sp : List Nat) (hm : P.follows .mixedOrders = true) (hB : Region.calmOB .any l.toArray n (pickN l q) sp = true)
    (hQ : ∀ d c a v w, Q (.panic c) (Act.put a d v) w → Q (.panic c) a w) (hS : S w.drew)
    (h : S w.drew → wpCalmO P l.toArray Q S sp (fun a' w' => wpList P l.toArray Q (l.drop n) a' w') (pickN l q) a w.drew) : (Code.region id l.toArray true).wp P Q a w := by
  simp only [Region.calmOB, Bool.and_eq_true, decide_eq_true_eq] at hB
  obtain ⟨⟨⟨⟨⟨⟨hsel, hn⟩, hql⟩, hqa⟩, hs⟩, hc⟩, hlex⟩ := hB
  have hn' : n < l.length := by simpa using hn
  have hdl : (l.drop n).length = l.toArray.size - n := by simp
  have inv0 : HeadInv .any l.toArray n (Array.replicate l.toArray.size false) :=
    ⟨by simp, fun j oj _ hl => (by rw [getD_replicate_false] at hl; cases hl), fun t _ ht => getD_in (by simpa using ht) (getD_replicate_false _ _)⟩
  have hqs : ∀ x ∈ pickN l q, l.toArray[x.1]? = some x.2 ∧ x.1 < n := fun x hx => by
    have h1 := List.all_eq_true.1 hqa x hx
    simp only [decide_eq_true_eq] at h1
    exact ⟨by simpa using (pickN_spec hx).1, h1⟩
  have H := wpAnyC_calmO (md := .any) (g := l.toArray.size - n) hsel hs hc hn hQ (pickN l q) _ a _ hqs inv0 hS hlex (h hS)
  refine wp_region_any hm ?_
  have := wpAny_of_headC (g := l.toArray.size - n) (fun listed a' w' hL => by
    have := wpAny_of_seq (md := .any) (Q' := Q) (l.drop n) n listed a' w' (fun j => by simp [List.getElem?_drop]) (by rw [hdl]; exact hL.1) hL.2
    rwa [hdl] at this) _ _ _ _ H
  rw [hql, show n + (l.toArray.size - n) = l.toArray.size by omega] at this
  exact this

theorem wpCalmO_nil {sp : List Nat} {L : Act → World → Prop} {a : Act} {w : World} (h : L a w) : wpCalmO P ops Q S sp L [] a w := h
/-- A quiet operation. -/
theorem wpCalmO_q {sp : List Nat} {L : Act → World → Prop} {k : Nat} {o : Oper} {r : List (Nat × Oper)} {a : Act} {w : World} (hk : sp.contains k = false) (hg : o.guard = none)
    (h : ∃ v, (∀ w, S w → (execOp a.eval o).run P w = .ok (.value v) w) ∧ wpCalmO P ops Q S sp L r (a.put o.dst v) w) : wpCalmO P ops Q S sp L ((k, o) :: r) a w := by
  obtain ⟨v, h1, h2⟩ := h
  rw [wpCalmO, if_neg (by simpa using hk)]
  exact ⟨v, .inl ⟨by simp [Region.wanted, hg], h1⟩, h2⟩
/-- An operation of the spine. -/
theorem wpCalmO_s {sp : List Nat} {L : Act → World → Prop} {k : Nat} {o : Oper} {r : List (Nat × Oper)} {a : Act} {w : World} (hk : sp.contains k = true) (ho : ops[k]? = some o)
    (h : ∀ K' : Act → World → Prop, Shut (∀ a w, S w → wpCalmO P ops Q S sp L r a w → K' a w) → if Region.wanted o (yielded ops a.tmps) = true then Oper.wp P o a w K' Q else K' (a.put o.dst undef) w) : wpCalmO P ops Q S sp L ((k, o) :: r) a w := by
  rw [wpCalmO, if_pos hk]
  exact wpOp_step ho (fun K' hK => h K' (fun a w hS hW => hK a w ⟨hS, hW⟩))
theorem wpCalmO_world {sp : List Nat} {L : Act → World → Prop} {l : List (Nat × Oper)} {a : Act} {W : World} (h : ∀ w1, w1 = W → wpCalmO P ops Q S sp L l a w1) : wpCalmO P ops Q S sp L l a W := h _ rfl
end
end Go
