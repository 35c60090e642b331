/- A region that draws its order, as a tree: quiet operations are taken one by one in an order of our choice; where only makers of memory or calls are ready, each of them may come next, and each way is walked. The region's text stays hidden behind a variable. -/
import Derived.Test.YtjigbkklgekjlaaBaseM
import Derived.Lib.Hide
namespace Go
open Go.RowKit
section
variable {P : Program} {ops : Array Oper} {md : Region.Mode} {S : World → Prop} {Q : Exit → Act → World → Prop} {T : Act → World → Prop} {n : Nat} {l : List Oper}

/-- What is so of the region whatever comes. -/
structure TreeOk (md : Region.Mode) (ops : Array Oper) (Q : Exit → Act → World → Prop) (n : Nat) : Prop where
  sel : Region.noSelect ops = true
  sink : Region.sinkB md ops n = true
  chain : Region.chainB md ops n = true
  lt : n < ops.size
  quit : ∀ d c a v w, Q (.panic c) (Act.put a d v) w → Q (.panic c) a w

def wpTree (P : Program) (md : Region.Mode) (ops : Array Oper) (Q : Exit → Act → World → Prop) (S : World → Prop) (n : Nat) (T : Act → World → Prop) (f : Nat) (listed : Array Bool) (a : Act) (w : World) : Prop :=
  HeadInv md ops n listed → S w → wpAnyC P md ops Q S n (fun listed' a' w' => Region.seqB md ops (ops.size - n) n listed' = true ∧ T a' w') f listed a w

def Region.treeQB (md : Region.Mode) (ops : Array Oper) (n k : Nat) (listed : Array Bool) : Bool := decide (k < n) && (Region.ready md ops listed).contains k && Region.free md ops listed k

/-- A quiet operation is taken. -/
theorem wpTree_qg {f : Nat} {listed : Array Bool} {a : Act} {w : World} {o : Oper} (k : Nat) (ok : TreeOk md ops Q n) (hO : Hid (ops = l.toArray)) (hB : Region.treeQB md l.toArray n k listed = true) (ho : l[k]? = some o) (hg : Region.wanted o (yielded l.toArray a.tmps) = true)
    (h : ∃ v, (∀ w, S w → (execOp a.eval o).run P w = .ok (.value v) w) ∧ wpTree P md ops Q S n T f (listed.setIfInBounds k true) (a.put o.dst v) w) : wpTree P md ops Q S n T (f + 1) listed a w := by
  have hO := hO.out
  subst hO
  intro inv hS
  obtain ⟨v, hy, hK⟩ := h
  simp only [Region.treeQB, Bool.and_eq_true, decide_eq_true_eq] at hB
  obtain ⟨⟨hkn, hr⟩, hf⟩ := hB
  have hr' : k ∈ Region.ready md l.toArray listed := by simpa using hr
  have ho' : l.toArray[k]? = some o := by simpa using ho
  exact wpAnyC_first ho' (Region.noSelect_spec ok.sel) ok.sink ok.chain ok.lt hkn (fun c a w => ok.quit _ c a v w) (fun listed' a' w' hL => seqB_ready hL.1) f listed a w inv (Region.free_spec ho' hf) hr' (.inl ⟨hg, hy⟩) hS
    (hK (inv.set hr' hkn) hS)
theorem wpTree_q {f : Nat} {listed : Array Bool} {a : Act} {w : World} {o : Oper} (k : Nat) (ok : TreeOk md ops Q n) (hO : Hid (ops = l.toArray)) (hB : Region.treeQB md l.toArray n k listed = true) (ho : l[k]? = some o) (hg : o.guard = none)
    (h : ∃ v, (∀ w, S w → (execOp a.eval o).run P w = .ok (.value v) w) ∧ wpTree P md ops Q S n T f (listed.setIfInBounds k true) (a.put o.dst v) w) : wpTree P md ops Q S n T (f + 1) listed a w :=
  wpTree_qg k ok hO hB ho (by simp [Region.wanted, hg]) h
/-- .. a guarded one that is not wanted. -/
theorem wpTree_qn {f : Nat} {listed : Array Bool} {a : Act} {w : World} {o : Oper} (k : Nat) (ok : TreeOk md ops Q n) (hO : Hid (ops = l.toArray)) (hB : Region.treeQB md l.toArray n k listed = true) (ho : l[k]? = some o) (hg : Region.wanted o (yielded l.toArray a.tmps) = false)
    (h : wpTree P md ops Q S n T f (listed.setIfInBounds k true) (a.put o.dst undef) w) : wpTree P md ops Q S n T (f + 1) listed a w := by
  have hO := hO.out
  subst hO
  intro inv hS
  simp only [Region.treeQB, Bool.and_eq_true, decide_eq_true_eq] at hB
  obtain ⟨⟨hkn, hr⟩, hf⟩ := hB
  have hr' : k ∈ Region.ready md l.toArray listed := by simpa using hr
  have ho' : l.toArray[k]? = some o := by simpa using ho
  exact wpAnyC_first ho' (Region.noSelect_spec ok.sel) ok.sink ok.chain ok.lt hkn (fun c a w => ok.quit _ c a undef w) (fun listed' a' w' hL => seqB_ready hL.1) f listed a w inv (Region.free_spec ho' hf) hr' (.inr ⟨hg, rfl⟩) hS
    (h (inv.set hr' hkn) hS)

/-- What each of the ready ones owes. -/
def TreeOwes (P : Program) (md : Region.Mode) (ops : Array Oper) (Q : Exit → Act → World → Prop) (S : World → Prop) (n : Nat) (T : Act → World → Prop) (f : Nat) (listed : Array Bool) (a : Act) (w : World) (k : Nat) (o : Oper) : Prop :=
  ∀ K' : Act → World → Prop, Shut (∀ a w, S w → wpTree P md ops Q S n T f (listed.setIfInBounds k true) a w → K' a w) → if Region.wanted o (yielded ops a.tmps) = true then Oper.wp P o a w K' Q else K' (a.put o.dst undef) w

theorem wpTree_owes {f : Nat} {listed : Array Bool} {a : Act} {w : World} {o : Oper} {k : Nat} (inv : HeadInv md ops n listed) (hr : k ∈ Region.ready md ops listed) (hkn : k < n) (ho : ops[k]? = some o) (h : TreeOwes P md ops Q S n T f listed a w k o) :
    wpOp P ops Q k (fun a' w' => S w' ∧ wpAnyC P md ops Q S n (fun listed' a' w' => Region.seqB md ops (ops.size - n) n listed' = true ∧ T a' w') f (listed.setIfInBounds k true) a' w') a w :=
  wpOp_step ho (fun K' hK => h K' (fun a w hS hW => hK a w ⟨hS, hW (inv.set hr hkn) hS⟩))

theorem wpTree_1 {f : Nat} {listed : Array Bool} {a : Act} {w : World} {o : Oper} (k : Nat) (hO : Hid (ops = l.toArray)) (hB : decide (Region.ready md l.toArray listed = [k]) = true) (hkn : k < n) (ho : l[k]? = some o)
    (h : TreeOwes P md ops Q S n T f listed a w k o) : wpTree P md ops Q S n T (f + 1) listed a w := by
  have hO := hO.out
  subst hO
  intro inv hS
  have hB := of_decide_eq_true hB
  refine ⟨by rw [hB]; simp, fun i hi => ?_⟩
  have hi' := hi
  rw [hB] at hi
  obtain rfl : i = k := by simpa using hi
  exact ⟨hkn, wpTree_owes inv hi' hkn (by simpa using ho) h⟩
/-- .. a wanted one. -/
theorem wpTree_1g {f : Nat} {listed : Array Bool} {a : Act} {w : World} {o : Oper} (k : Nat) (hO : Hid (ops = l.toArray)) (hB : decide (Region.ready md l.toArray listed = [k]) = true) (hkn : k < n) (ho : l[k]? = some o) (hg : Region.wanted o (yielded l.toArray a.tmps) = true)
    (h : ∀ K' : Act → World → Prop, Shut (∀ a w, S w → wpTree P md ops Q S n T f (listed.setIfInBounds k true) a w → K' a w) → Oper.wp P o a w K' Q) : wpTree P md ops Q S n T (f + 1) listed a w :=
  wpTree_1 k hO hB hkn ho (fun K' hK => by rw [if_pos (by rw [hO.out]; exact hg)]; exact h K' hK)

theorem wpTree_2 {f : Nat} {listed : Array Bool} {a : Act} {w : World} {o1 o2 : Oper} (k1 k2 : Nat) (hO : Hid (ops = l.toArray)) (hB : decide (Region.ready md l.toArray listed = [k1, k2]) = true) (hk1 : k1 < n) (hk2 : k2 < n) (ho1 : l[k1]? = some o1) (ho2 : l[k2]? = some o2)
    (h1 : TreeOwes P md ops Q S n T f listed a w k1 o1) (h2 : TreeOwes P md ops Q S n T f listed a w k2 o2) : wpTree P md ops Q S n T (f + 1) listed a w := by
  have hO := hO.out
  subst hO
  intro inv hS
  have hB := of_decide_eq_true hB
  refine ⟨by rw [hB]; simp, fun i hi => ?_⟩
  have hi' := hi
  rw [hB] at hi
  rcases (by simpa using hi : i = k1 ∨ i = k2) with rfl | rfl
  · exact ⟨hk1, wpTree_owes inv hi' hk1 (by simpa using ho1) h1⟩
  · exact ⟨hk2, wpTree_owes inv hi' hk2 (by simpa using ho2) h2⟩

theorem wpTree_3 {f : Nat} {listed : Array Bool} {a : Act} {w : World} {o1 o2 o3 : Oper} (k1 k2 k3 : Nat) (hO : Hid (ops = l.toArray)) (hB : decide (Region.ready md l.toArray listed = [k1, k2, k3]) = true) (hk1 : k1 < n) (hk2 : k2 < n) (hk3 : k3 < n) (ho1 : l[k1]? = some o1) (ho2 : l[k2]? = some o2) (ho3 : l[k3]? = some o3)
    (h1 : TreeOwes P md ops Q S n T f listed a w k1 o1) (h2 : TreeOwes P md ops Q S n T f listed a w k2 o2) (h3 : TreeOwes P md ops Q S n T f listed a w k3 o3) : wpTree P md ops Q S n T (f + 1) listed a w := by
  have hO := hO.out
  subst hO
  intro inv hS
  have hB := of_decide_eq_true hB
  refine ⟨by rw [hB]; simp, fun i hi => ?_⟩
  have hi' := hi
  rw [hB] at hi
  rcases (by simpa using hi : i = k1 ∨ i = k2 ∨ i = k3) with rfl | rfl | rfl
  · exact ⟨hk1, wpTree_owes inv hi' hk1 (by simpa using ho1) h1⟩
  · exact ⟨hk2, wpTree_owes inv hi' hk2 (by simpa using ho2) h2⟩
  · exact ⟨hk3, wpTree_owes inv hi' hk3 (by simpa using ho3) h3⟩

theorem wpTree_nil {listed : Array Bool} {a : Act} {w : World} (hO : Hid (ops = l.toArray)) (hB : Region.seqB md l.toArray (l.toArray.size - n) n listed = true) (h : T a w) : wpTree P md ops Q S n T 0 listed a w := fun _ _ => ⟨by rw [hO.out]; exact hB, h⟩
theorem wpTree_world {f : Nat} {listed : Array Bool} {a : Act} {W : World} (h : ∀ w1, w1 = W → wpTree P md ops Q S n T f listed a w1) : wpTree P md ops Q S n T f listed a W := h _ rfl
theorem wpTree_held {f : Nat} {listed : Array Bool} {a : Act} {w : World} (h : S w → wpTree P md ops Q S n T f listed a w) : wpTree P md ops Q S n T f listed a w := fun inv hS => h hS inv hS

theorem wp_region_tree {id : Nat} {a : Act} {w : World} (S : World → Prop) (n N : Nat) (hm : P.follows .mixedOrders = true) (hN : l.length = N)
    (hB : (Region.noSelect l.toArray && decide (n < l.toArray.size) && Region.sinkB .any l.toArray n && Region.chainB .any l.toArray n) = true)
    (hQ : ∀ d c a v w, Q (.panic c) (Act.put a d v) w → Q (.panic c) a w) (hS : S w.drew)
    (h : ∀ (ops : Array Oper) (T : Act → World → Prop), Hid (ops = l.toArray) → Hid (∀ a' w', wpList P l.toArray Q (l.drop n) a' w' → T a' w') → TreeOk .any ops Q n → S w.drew → wpTree P .any ops Q S n T n (Array.replicate N false) a w.drew) : (Code.region id l.toArray true).wp P Q a w := by
  simp only [Bool.and_eq_true, decide_eq_true_eq] at hB
  obtain ⟨⟨⟨hsel, hn⟩, hs⟩, hc⟩ := hB
  have hn' : n < l.length := by simpa using hn
  have hdl : (l.drop n).length = l.toArray.size - n := by simp
  have inv0 : HeadInv .any l.toArray n (Array.replicate l.length false) :=
    ⟨by simp, fun j oj _ hl => (by rw [getD_replicate_false] at hl; cases hl), fun t _ ht => getD_in (by simpa using ht) (getD_replicate_false _ _)⟩
  subst hN
  have H := h l.toArray (fun a' w' => wpList P l.toArray Q (l.drop n) a' w') (Lib.hid rfl) (Lib.hid (fun _ _ h => h)) ⟨hsel, hs, hc, hn, hQ⟩ hS inv0 hS
  refine wp_region_any hm ?_
  have := wpAny_of_headC (g := l.toArray.size - n) (fun listed a' w' hL => by
    have := wpAny_of_seq (md := .any) (Q' := Q) (l.drop n) n listed a' w' (fun j => by simp [List.getElem?_drop]) (by rw [hdl]; exact hL.1) hL.2
    rwa [hdl] at this) _ _ _ _ H
  rw [show n + (l.toArray.size - n) = l.toArray.size by omega] at this
  simpa using this
end
end Go
