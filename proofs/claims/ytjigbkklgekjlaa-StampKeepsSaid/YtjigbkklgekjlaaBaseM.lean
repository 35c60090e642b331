/- A region that draws its order: a head whose operations are quiet while S holds, or of the spine (each alone when it comes up, S being kept), and a tail in a forced order behind the head: one walk, in the order of the text. -/
import Derived.Test.YtjigbkklgekjlaaBaseL
import Derived.StillTail
import Derived.OrdersHeld
import Derived.Deep.RegionHeld
namespace Go
section
variable {P : Program} {ops : Array Oper} {md : Region.Mode} {S : World → Prop} {Q : Exit → Act → World → Prop}

def wpAnyC (P : Program) (md : Region.Mode) (ops : Array Oper) (Q : Exit → Act → World → Prop) (S : World → Prop) (n : Nat) (L : Array Bool → Act → World → Prop) : Nat → Array Bool → Act → World → Prop
  | 0, listed, a, w => L listed a w
  | f + 1, listed, a, w =>
    Region.ready md ops listed ≠ [] ∧ ∀ i ∈ Region.ready md ops listed, i < n ∧ wpOp P ops Q i (fun a' w' => S w' ∧ wpAnyC P md ops Q S n L f (listed.setIfInBounds i true) a' w') a w

theorem wpAny_of_headC {n g : Nat} {L : Array Bool → Act → World → Prop} (hL : ∀ listed a w, L listed a w → wpAny P md ops Q g listed a w) :
    ∀ (f : Nat) (listed : Array Bool) (a : Act) (w : World), wpAnyC P md ops Q S n L f listed a w → wpAny P md ops Q (f + g) listed a w
  | 0, listed, a, w, h => by rw [Nat.zero_add]; exact hL _ _ _ h
  | f + 1, listed, a, w, h => by
    rw [show f + 1 + g = (f + g) + 1 by omega]
    exact ⟨fun h0 => absurd h0 h.1, fun i hi => wpOp_mono (fun a' w' h' => wpAny_of_headC hL f _ a' w' h'.2) (h.2 i hi).2⟩

theorem wpAnyC_first {n i : Nat} {oi : Oper} {v : Value} {L : Array Bool → Act → World → Prop} (hi : ops[i]? = some oi) (hsel : ∀ (j : Nat) (o : Oper) cs b, ops[j]? = some o → o.op ≠ .select cs b)
    (hs : Region.sinkB md ops n = true) (hc : Region.chainB md ops n = true) (hn : n < ops.size) (hin : i < n)
    (hQ : ∀ c a w, Q (.panic c) (a.put oi.dst v) w → Q (.panic c) a w)
    (hdone : ∀ listed a w, L listed a w → ∀ j ∈ Region.ready md ops listed, n ≤ j) :
    ∀ (f : Nat) (listed : Array Bool) (a : Act) (w : World), HeadInv md ops n listed →
      (∀ j oj, ops[j]? = some oj → j ≠ i → listed.getD j true = false → (∀ e ∈ oj.after, Region.binds md e = true → e.on ≠ i) → oi.apart ops oj = true) →
      i ∈ Region.ready md ops listed → YieldsIf P ops S oi v a → S w →
      wpAnyC P md ops Q S n L f (listed.setIfInBounds i true) (a.put oi.dst v) w → wpAnyC P md ops Q S n L (f + 1) listed a w := by
  intro f
  induction f with
  | zero =>
    intro listed a w inv _ hr hy hS H
    refine ⟨fun h => (by rw [h] at hr; cases hr), fun j hj => ?_⟩
    have hjn : j < n := by
      rcases Nat.lt_or_ge j n with h | h
      · exact h
      · exact absurd hj (tail_waits hs hc hn inv _ i rfl hin (mem_ready.1 hr).1 j h)
    refine ⟨hjn, ?_⟩
    by_cases hji : j = i
    · subst hji; exact hy.wpOp hi hS ⟨hS, H⟩
    · have := hdone _ _ _ H j (ready_mono hj hji)
      omega
  | succ f ih =>
    intro listed a w inv hfree hr hy hS H
    have hun := (mem_ready.1 hr).1
    refine ⟨fun h => (by rw [h] at hr; cases hr), fun j hj => ?_⟩
    have hjn : j < n := by
      rcases Nat.lt_or_ge j n with h | h
      · exact h
      · exact absurd hj (tail_waits hs hc hn inv _ i rfl hin hun j h)
    refine ⟨hjn, ?_⟩
    by_cases hji : j = i
    · subst hji; exact hy.wpOp hi hS ⟨hS, H⟩
    · have h1 := (H.2 j (ready_mono hj hji)).2
      obtain ⟨hjun, oj, hoj, hall⟩ := mem_ready.1 hj
      have hnot : ∀ e ∈ oj.after, Region.binds md e = true → e.on ≠ i := fun e he hb heq => by
        have h1 := hall e he hb
        rw [heq, getD_both hun] at h1
        cases h1
      have h2 := wpOp_putIf hoj (hfree j oj hoj hji hjun hnot) (fun cs b => hsel i oi cs b hi) (fun cs b => hsel j oj cs b hoj) hQ hy h1
      have hfree' : ∀ k ok, ops[k]? = some ok → k ≠ i → (listed.setIfInBounds j true).getD k true = false →
          (∀ e ∈ ok.after, Region.binds md e = true → e.on ≠ i) → oi.apart ops ok = true := fun k ok hk hki hun hno => by
        refine hfree k ok hk hki ?_ hno
        by_cases hjk : j = k
        · subst hjk; exact hjun
        · rw [getD_set_ne true hjk] at hun; exact hun
      refine wpOp_mono (fun a' w' h3 => ⟨h3.2.1, ih (listed.setIfInBounds j true) a' w' (inv.set hj hjn) hfree' (ready_mono hr (Ne.symm hji)) h3.1 h3.2.1 ?_⟩) h2
      rw [Array.setIfInBounds_comm _ _ hji]
      exact h3.2.2

/-- The head in the order of the text: the operations of the spine stand in sp. -/
def wpCalm (P : Program) (ops : Array Oper) (Q : Exit → Act → World → Prop) (S : World → Prop) (sp : List Nat) (L : Act → World → Prop) : Nat → List Oper → Act → World → Prop
  | _, [], a, w => L a w
  | k, o :: r, a, w =>
    if sp.contains k = true then wpOp P ops Q k (fun a' w' => S w' ∧ wpCalm P ops Q S sp L (k + 1) r a' w') a w
    else ∃ v, YieldsIf P ops S o v a ∧ wpCalm P ops Q S sp L (k + 1) r (a.put o.dst v) w

def Region.calmHead (md : Region.Mode) (ops : Array Oper) (sp : List Nat) (g : Nat) : Nat → Nat → Array Bool → Bool
  | 0, k, listed => Region.seqB md ops g k listed
  | f + 1, k, listed => (if sp.contains k = true then decide (Region.ready md ops listed = [k]) else (Region.ready md ops listed).contains k && Region.free md ops listed k) && Region.calmHead md ops sp g f (k + 1) (listed.setIfInBounds k true)
def Region.calmB (md : Region.Mode) (ops : Array Oper) (n : Nat) (sp : List Nat) : Bool :=
  Region.noSelect ops && decide (n < ops.size) && Region.sinkB md ops n && Region.chainB md ops n && Region.calmHead md ops sp (ops.size - n) n 0 (Array.replicate ops.size false)

theorem wpAnyC_calm {n g : Nat} {sp : List Nat} {Lq : Act → World → Prop} (hsel : Region.noSelect ops = true) (hs : Region.sinkB md ops n = true) (hc : Region.chainB md ops n = true) (hn : n < ops.size)
    (hQ : ∀ d c a v w, Q (.panic c) (Act.put a d v) w → Q (.panic c) a w) :
    ∀ (l : List Oper) (k : Nat) (listed : Array Bool) (a : Act) (w : World), (∀ j, j < l.length → l[j]? = ops[k + j]?) → k + l.length = n → HeadInv md ops n listed → S w →
    Region.calmHead md ops sp g l.length k listed = true → wpCalm P ops Q S sp Lq k l a w →
    wpAnyC P md ops Q S n (fun listed' a' w' => Region.seqB md ops g n listed' = true ∧ Lq a' w') l.length listed a w
  | [], k, listed, a, w, _, hk, _, _, hB, h => by
    have : k = n := by simpa using hk
    subst this
    exact ⟨by simpa [Region.calmHead] using hB, h⟩
  | o :: l, k, listed, a, w, hl, hk, inv, hS, hB, h => by
    have h0 : ops[k]? = some o := by simpa using (hl 0 (by simp)).symm
    have hkn : k < n := by simp only [List.length_cons] at hk; omega
    have hl' : ∀ j, j < l.length → l[j]? = ops[k + 1 + j]? := fun j hj => by
      have := hl (j + 1) (by simp; omega)
      simpa [Nat.add_assoc, Nat.add_comm 1 j] using this
    have hk' : k + 1 + l.length = n := by simp only [List.length_cons] at hk; omega
    rw [wpCalm] at h
    simp only [List.length_cons, Region.calmHead, Bool.and_eq_true] at hB
    obtain ⟨hB1, hB'⟩ := hB
    by_cases hsp : sp.contains k = true
    · rw [if_pos hsp] at h hB1
      have hB1 := of_decide_eq_true hB1
      have hr' : k ∈ Region.ready md ops listed := by rw [hB1]; simp
      refine ⟨by rw [hB1]; simp, fun i hi => ?_⟩
      rw [hB1] at hi
      obtain rfl : i = k := by simpa using hi
      exact ⟨hkn, wpOp_mono (fun a' w' h' => ⟨h'.1, wpAnyC_calm hsel hs hc hn hQ l (i + 1) _ a' w' hl' hk' (inv.set hr' hkn) h'.1 hB' h'.2⟩) h⟩
    · rw [if_neg hsp] at h hB1
      simp only [Bool.and_eq_true] at hB1
      have hr' : k ∈ Region.ready md ops listed := by simpa using hB1.1
      obtain ⟨v, hy, hK⟩ := h
      exact wpAnyC_first h0 (Region.noSelect_spec hsel) hs hc hn hkn (fun c a w => hQ _ c a v w) (fun listed' a' w' hL => seqB_ready hL.1) l.length listed a w inv (Region.free_spec h0 hB1.2) hr' hy hS
        (wpAnyC_calm hsel hs hc hn hQ l (k + 1) _ _ w hl' hk' (inv.set hr' hkn) hS hB' hK)

theorem wp_region_calm {id : Nat} {a : Act} {w : World} {l : List Oper} (S : World → Prop) (n : Nat) (sp : List Nat) (hm : P.follows .mixedOrders = true) (hB : Region.calmB .any l.toArray n sp = true)
    (hQ : ∀ d c a v w, Q (.panic c) (Act.put a d v) w → Q (.panic c) a w) (hS : S w.drew)
    (h : S w.drew → wpCalm P l.toArray Q S sp (fun a' w' => wpList P l.toArray Q (l.drop n) a' w') 0 (l.take n) a w.drew) : (Code.region id l.toArray true).wp P Q a w := by
  simp only [Region.calmB, Bool.and_eq_true, decide_eq_true_eq] at hB
  obtain ⟨⟨⟨⟨hsel, hn⟩, hs⟩, hc⟩, hlex⟩ := hB
  have hn' : n < l.length := by simpa using hn
  have htl : (l.take n).length = n := by simp; omega
  have hdl : (l.drop n).length = l.toArray.size - n := by simp
  have inv0 : HeadInv .any l.toArray n (Array.replicate l.toArray.size false) :=
    ⟨by simp, fun j oj _ hl => (by rw [getD_replicate_false] at hl; cases hl), fun t _ ht => getD_in (by simpa using ht) (getD_replicate_false _ _)⟩
  have H := wpAnyC_calm (md := .any) (g := l.toArray.size - n) hsel hs hc hn hQ (l.take n) 0 _ a _ (fun j hj => by
    have hj' : j < n := by rw [htl] at hj; exact hj
    simp [hj']) (by simpa using htl) inv0 hS (by rw [htl]; exact hlex) (h hS)
  refine wp_region_any hm ?_
  have := wpAny_of_headC (g := l.toArray.size - n) (fun listed a' w' hL => by
    have := wpAny_of_seq (md := .any) (Q' := Q) (l.drop n) n listed a' w' (fun j => by simp [List.getElem?_drop]) (by rw [hdl]; exact hL.1) hL.2
    rwa [hdl] at this) _ _ _ _ H
  rw [htl, show n + (l.toArray.size - n) = l.toArray.size by omega] at this
  exact this

theorem wpCalm_nil {sp : List Nat} {L : Act → World → Prop} {k : Nat} {a : Act} {w : World} (h : L a w) : wpCalm P ops Q S sp L k [] a w := h
/-- A quiet operation. -/
theorem wpCalm_q {sp : List Nat} {L : Act → World → Prop} {k : Nat} {o : Oper} {r : List Oper} {a : Act} {w : World} {v : Value} (hk : sp.contains k = false)
    (hy : YieldsIf P ops S o v a) (h : wpCalm P ops Q S sp L (k + 1) r (a.put o.dst v) w) : wpCalm P ops Q S sp L k (o :: r) a w := by
  rw [wpCalm, if_neg (by rw [hk]; simp)]
  exact ⟨v, hy, h⟩
/-- .. without a guard. -/
theorem wpCalm_q0 {sp : List Nat} {L : Act → World → Prop} {k : Nat} {o : Oper} {r : List Oper} {a : Act} {w : World} (hk : sp.contains k = false) (hg : o.guard = none)
    (h : ∃ v, (∀ w, S w → (execOp a.eval o).run P w = .ok (.value v) w) ∧ wpCalm P ops Q S sp L (k + 1) r (a.put o.dst v) w) : wpCalm P ops Q S sp L k (o :: r) a w := by
  obtain ⟨v, h1, h2⟩ := h
  exact wpCalm_q hk (.inl ⟨by simp [Region.wanted, hg], h1⟩) h2
/-- An operation of the spine. -/
theorem wpCalm_s {sp : List Nat} {L : Act → World → Prop} {k : Nat} {o : Oper} {r : List Oper} {a : Act} {w : World} (hk : sp.contains k = true) (ho : ops[k]? = some o)
    (h : ∀ K' : Act → World → Prop, Shut (∀ a w, S w → wpCalm P ops Q S sp L (k + 1) r a w → K' a w) → if Region.wanted o (yielded ops a.tmps) = true then Oper.wp P o a w K' Q else K' (a.put o.dst undef) w) : wpCalm P ops Q S sp L k (o :: r) a w := by
  rw [wpCalm, if_pos hk]
  exact wpOp_step ho (fun K' hK => h K' (fun a w hS hW => hK a w ⟨hS, hW⟩))
end

section
variable {P : Program} {α : Type} {enc : α → List Value} {size : Nat} {base : Nat} {e : TypeId} {v : Value} {xs : List α}
/-- append of one element of the call's own, at an operation of the spine. -/
theorem step_app1g {W : World} {ops : Array Oper} {o : Oper} {a : Act} {K : Act → World → Prop} {Q : Exit → Act → World → Prop} {E : Prop} (hgd : o.guard = none) (s x : Operand) (t : TypeId)
    (ho : o.op = .call { callee := .builtin .append, args := #[s, x], argTypes := #[t, t] })
    {i : TypeInfo} {z : Value} {bytes : Nat} (ht : P.underlying t = some (.slice e)) (hi : P.info? e = some i) (hz : i.zero = some z)
    (hsize : i.size = size) (hby : i.bytes = bytes) (hzs : z.cells.size = size) (hsz : 0 < size)
    (y : α) {T : TypeId} (hs : a.eval s = v) (hown : OwnL enc W base e size v xs) (hx : a.eval x = .slice (some ⟨W.heap.size, 0, none⟩) 1 1)
    (hk : (enc y).length = size) (h1 : ∀ u ∈ enc y, u.oneCell' = true) (hbd : (xs.length + 1) * bytes ≤ 140737488355328) (hn : xs.length + 1 ≤ maxLen) (hbase : base ≤ W.heap.size)
    (h : ∀ g cap w', OwnL enc w' base e size (.slice (some ⟨g, 0, none⟩) (xs.length + 1) cap) (xs ++ [y]) → Grew W v w' (.slice (some ⟨g, 0, none⟩) (xs.length + 1) cap) → K (a.put o.dst (.slice (some ⟨g, 0, none⟩) (xs.length + 1) cap)) w') :
    if Region.wanted o (yielded ops a.tmps) = true then Oper.wp P o a (W.alloc (.cells (enc y).toArray T)) K Q else E := by
  refine step_append_lies (W.alloc (.cells (enc y).toArray T)) hgd s x t ho base e i z size bytes ht hi hz hsize hby hzs hsz v xs.length (xs.flatMap enc) hs (World.ownsRow.alloc hown _) ⟨W.heap.size, 0, none⟩ 1 1 (enc y) hx (by simpa using hk) ?_ h1 (by omega) hn hbd (by simp; omega) (W.heap.size + 1) (by simp) ?_
  · intro j u hj
    have hb := Blk.new W (enc y).toArray T
    have : (⟨W.heap.size, 0, none⟩ : Addr).add j = ⟨W.heap.size, j, none⟩ := by unfold Addr.add; split <;> simp_all
    rw [this, hb.cell]
    simpa using hj
  · intro g cap w' h2 h3 h4 h5
    refine h g cap w' ?_ ⟨(World.grownBy_alloc W _ v.ownBlock).trans h3, ?_⟩
    · unfold OwnL
      rw [flat_snoc, List.length_append]
      exact h2
    · rcases h4 with e6 | e6
      · exact .inl (by rw [e6]; rfl)
      · exact .inr ⟨g, rfl, by omega⟩
end
theorem Blk.new_at (W : World) (cs : Array Value) (T : TypeId) {n : Nat} (h : W.heap.size = n) : Blk (W.alloc (.cells cs T)) n cs T := h ▸ Blk.new W cs T
end Go
