/- A region that draws its order, in three parts.
  The front: p operations that only read (they may also come behind the rest).
  The middle, in an order q of our choice: operations that read, and calls whose value is fixed and that make memory alone (R), and those of odd: any, each alone when, in the order q, it comes up.
  The tail: each of sp alone when it comes up, the others only read. -/
import Derived.Test.YtjigbkklgekjlaaBaseA
import Derived.Test.YtjigbkklgekjlaaBaseM
namespace Go
section
variable {P : Program} {ops : Array Oper} {md : Region.Mode} {S : World → Prop} {Q : Exit → Act → World → Prop}

def Region.sinkP (md : Region.Mode) (ops : Array Oper) (p n : Nat) : Bool :=
  (List.range n).all fun i => decide (i < p) || (List.range (n + 1)).any fun j => decide (i < j) && Region.waitsFor md ops j i

theorem tail_waitsP {p n : Nat} {listed : Array Bool} (hs : Region.sinkP md ops p n = true) (hc : Region.chainB md ops n = true) (hn : n < ops.size) (inv : HeadInv md ops n listed) :
    ∀ (d i : Nat), n - i = d → p ≤ i → i < n → listed.getD i true = false → ∀ t, n ≤ t → t ∉ Region.ready md ops listed := by
  intro d
  induction d using Nat.strongRecOn with
  | _ d ih =>
    intro i hd hp hi hun t ht hr
    obtain ⟨_, ot, hot, hall⟩ := mem_ready.1 hr
    have htlt : t < ops.size := (Array.getElem?_eq_some_iff.1 hot).1
    by_cases htn : t = n
    · subst htn
      have h1 := List.all_eq_true.1 hs i (List.mem_range.2 hi)
      simp only [Bool.or_eq_true, decide_eq_true_eq] at h1
      rcases h1 with h1 | h1
      · omega
      obtain ⟨j, hj, hj2⟩ := List.any_eq_true.1 h1
      simp only [Bool.and_eq_true, decide_eq_true_eq] at hj2
      obtain ⟨oj, hoj, e, he, hb, hon⟩ := Region.waitsFor_spec hj2.2
      have hjle : j ≤ t := by have := List.mem_range.1 hj; omega
      by_cases hjt : j = t
      · subst hjt
        have : oj = ot := Option.some.inj (hoj.symm.trans hot)
        subst this
        have h2 := hall e he hb
        rw [hon, getD_both hun] at h2
        cases h2
      · cases hl : listed.getD j false with
        | true =>
          have h2 := inv.closed j oj hoj hl e he hb
          rw [hon, getD_both hun] at h2
          cases h2
        | false =>
          have hjs : j < listed.size := by rw [inv.size]; omega
          exact ih (t - j) (by omega) j rfl (by omega) (by omega) (getD_in hjs hl) t (Nat.le_refl _) hr
    · have h1 := List.all_eq_true.1 hc t (List.mem_range.2 htlt)
      simp only [Bool.or_eq_true, decide_eq_true_eq] at h1
      rcases h1 with h1 | h1
      · omega
      · obtain ⟨o', ho', e, he, hb, hon⟩ := Region.waitsFor_spec h1
        have : o' = ot := Option.some.inj (ho'.symm.trans hot)
        subst this
        have h2 := hall e he hb
        rw [hon, getD_both (inv.tail (t - 1) (by omega) (by omega))] at h2
        cases h2

def Region.walkB (md : Region.Mode) (ops : Array Oper) (sp : List Nat) : Nat → Nat → Array Bool → (Array Bool → Bool) → Bool
  | 0, _, listed, fin => fin listed
  | f + 1, k, listed, fin => (if sp.contains k = true then decide (Region.ready md ops listed = [k]) else (Region.ready md ops listed).contains k && Region.free md ops listed k) && Region.walkB md ops sp f (k + 1) (listed.setIfInBounds k true) fin


/-- One operation 'oj', apart from 'oi': whether 'oi''s value is already in its temporary makes no difference to it, and 'oi' looks as it looked. -/
theorem wpOp_put2 {j : Nat} {oi oj : Oper} {v : Value} (hj : ops[j]? = some oj) (hap : oi.apart ops oj = true)
    (hsi : ∀ cs b, oi.op ≠ .select cs b) (hsj : ∀ cs b, oj.op ≠ .select cs b)
    (hQ : ∀ c a w, Q (.panic c) (a.put oi.dst v) w → Q (.panic c) a w) {K : Act → World → Prop} {a : Act} {w : World}
    (h : wpOp P ops Q j K (a.put oi.dst v) w) :
    wpOp P ops Q j (fun a' w' => (execOp a'.eval oi = execOp a.eval oi ∧ Region.wanted oi (yielded ops a'.tmps) = Region.wanted oi (yielded ops a.tmps)) ∧ K (a'.put oi.dst v) w') a w := by
  obtain ⟨h1, h2, h3⟩ := Oper.apart_spec hap
  have keep : ∀ u, execOp (a.put oj.dst u).eval oi = execOp a.eval oi ∧ Region.wanted oi (yielded ops (a.put oj.dst u).tmps) = Region.wanted oi (yielded ops a.tmps) := fun u =>
    ⟨execOp_put oi hsi a oj.dst u h3, wanted_put oi a oj.dst u h3⟩
  have keepD : ∀ d u, execOp (({ a with defers := d :: a.defers } : Act).put oj.dst u).eval oi = execOp a.eval oi ∧ Region.wanted oi (yielded ops (({ a with defers := d :: a.defers } : Act).put oj.dst u).tmps) = Region.wanted oi (yielded ops a.tmps) := fun d u =>
    ⟨(execOp_put oi hsi _ oj.dst u h3).trans rfl, (wanted_put oi _ oj.dst u h3).trans rfl⟩
  unfold wpOp at *
  simp only [hj] at *
  rw [wanted_put oj a oi.dst v h1] at h
  split
  · rename_i hw
    simp only [hw, if_true] at h
    rcases h with h | ⟨hasks, hlets⟩
    case inr => exact .inr ⟨by unfold Oper.asks at *; rw [execOp_put oj hsj a oi.dst v h1] at hasks; exact hasks, hlets⟩
    refine .inl ?_
    unfold Oper.wp at *
    rw [execOp_put oj hsj a oi.dst v h1] at h
    generalize (execOp a.eval oj).run P w = r at *
    cases r with
    | ok n w' =>
      cases n <;> simp only [Oper.upon] at h ⊢
      case value u => exact ⟨keep u, by rw [← Act.put_comm a v u h2]; exact h⟩
      case skip => exact ⟨keep _, by rw [← Act.put_comm a v undef h2]; exact h⟩
      case defer d =>
        refine ⟨keepD d _, ?_⟩
        rw [← Act.put_comm _ v undef h2, ← Act.put_defers]
        exact h
      case enter f args =>
        refine Calls.mono h fun e w'' he => ?_
        cases e with
        | returned u => exact ⟨keep u, by rw [← Act.put_comm a v u h2]; exact he⟩
        | panicked c => exact hQ _ _ _ he
        | outgrown => exact he
      case row row args => exact Rows.mono h fun u w'' he => ⟨keep u, by rw [← Act.put_comm a v u h2]; exact he⟩
    | halt x w' =>
      cases x <;> simp only [Oper.upon] at h ⊢
      case panic u => exact hQ _ _ _ h
  · rename_i hw
    simp only [hw] at h
    exact ⟨keep _, by rw [← Act.put_comm a v undef h2]; exact h⟩

section
variable {R : World → World → Prop}

/-- From w on, whatever else has come meanwhile, the value is v and the world goes on. -/
def YieldsR (P : Program) (ops : Array Oper) (R : World → World → Prop) (S : World → Prop) (o : Oper) (v : Value) (a : Act) (w : World) : Prop :=
  (Region.wanted o (yielded ops a.tmps) = true ∧ ∀ w1, R w w1 → S w1 → o.quietAt P a (R w1) w1 v) ∨
  (Region.wanted o (yielded ops a.tmps) = false ∧ v = undef)

theorem YieldsR.go {o : Oper} {v : Value} {a a' : Act} {w w' : World} (hRt : ∀ a b c, R a b → R b c → R a c) (hy : YieldsR P ops R S o v a w) (hr : R w w')
    (he : execOp a'.eval o = execOp a.eval o) (hw : Region.wanted o (yielded ops a'.tmps) = Region.wanted o (yielded ops a.tmps)) : YieldsR P ops R S o v a' w' := by
  unfold YieldsR Oper.quietAt at *
  rw [he, hw]
  exact hy.imp (fun h => ⟨h.1, fun w1 h1 => h.2 w1 (hRt _ _ _ hr h1)⟩) id

theorem YieldsR.wpOp {i : Nat} {o : Oper} {v : Value} {a : Act} {w w1 : World} (hR0 : ∀ w, R w w) (hi : ops[i]? = some o) (hy : YieldsR P ops R S o v a w) (h1 : R w w1) (hS : S w1)
    {K : Act → World → Prop} (hK : ∀ w', R w1 w' → K (a.put o.dst v) w') : wpOp P ops Q i K a w1 := by
  unfold Go.wpOp
  simp only [hi]
  rcases hy with ⟨hw, hv⟩ | ⟨hw, rfl⟩
  · simp only [hw, if_true]
    have h3 := hv w1 h1 hS
    unfold Oper.quietAt at h3
    refine .inl ?_
    unfold Oper.wp
    generalize (execOp a.eval o).run P w1 = r at *
    cases r with
    | ok n w' =>
      cases n <;> simp only [Oper.quietUpon] at h3 <;> simp only [Oper.upon]
      case value u =>
        obtain ⟨e1, e2⟩ := h3
        rw [e1, e2]
        exact hK _ (hR0 _)
      case skip =>
        obtain ⟨e1, e2⟩ := h3
        rw [e1, ← e2]
        exact hK _ (hR0 _)
      case enter f args =>
        obtain ⟨e1, e2⟩ := h3
        rw [e1]
        refine Calls.mono e2 fun e w'' he => ?_
        obtain ⟨he, hr⟩ := he
        subst he
        exact hK _ hr
    | halt x w' => simp only [Oper.quietUpon] at h3
  · simp only [hw, Bool.false_eq_true, if_false]
    exact hK _ (hR0 _)

def wpAnyR (P : Program) (md : Region.Mode) (ops : Array Oper) (Q : Exit → Act → World → Prop) (R : World → World → Prop) (S : World → Prop) (n : Nat) (L : Array Bool → Act → World → Prop) : Nat → Array Bool → Act → World → Prop
  | 0, listed, a, w => ∀ w1, R w w1 → S w1 → L listed a w1
  | f + 1, listed, a, w => ∀ w1, R w w1 → S w1 →
    Region.ready md ops listed ≠ [] ∧ ∀ i ∈ Region.ready md ops listed, i < n ∧ wpOp P ops Q i (fun a' w' => R w1 w' ∧ S w' ∧ wpAnyR P md ops Q R S n L f (listed.setIfInBounds i true) a' w') a w1

theorem wpAnyR.go {n : Nat} {L : Array Bool → Act → World → Prop} (hRt : ∀ a b c, R a b → R b c → R a c) {w w' : World} (hr : R w w') :
    ∀ {f : Nat} {listed : Array Bool} {a : Act}, wpAnyR P md ops Q R S n L f listed a w → wpAnyR P md ops Q R S n L f listed a w'
  | 0, _, _, h => fun w1 h1 hS => h w1 (hRt _ _ _ hr h1) hS
  | _ + 1, _, _, h => fun w1 h1 hS => h w1 (hRt _ _ _ hr h1) hS

theorem wpAnyC_of_R {n n2 g : Nat} {L L2 : Array Bool → Act → World → Prop} (hn : n ≤ n2) (hR0 : ∀ w, R w w) (hL : ∀ listed a w, S w → L listed a w → wpAnyC P md ops Q S n2 L2 g listed a w) :
    ∀ (f : Nat) (listed : Array Bool) (a : Act) (w : World), S w → wpAnyR P md ops Q R S n L f listed a w → wpAnyC P md ops Q S n2 L2 (f + g) listed a w
  | 0, listed, a, w, hw, h => by rw [Nat.zero_add]; exact hL _ _ _ hw (h w (hR0 w) hw)
  | f + 1, listed, a, w, hw, h => by
    rw [show f + 1 + g = (f + g) + 1 by omega]
    have h' := h w (hR0 w) hw
    exact ⟨h'.1, fun i hi => ⟨Nat.lt_of_lt_of_le (h'.2 i hi).1 hn, wpOp_mono (fun a' w' q => ⟨q.2.1, wpAnyC_of_R hn hR0 hL f _ a' w' q.2.1 q.2.2⟩) (h'.2 i hi).2⟩⟩

theorem wpAnyR_first {p n i : Nat} {oi : Oper} {v : Value} {L : Array Bool → Act → World → Prop} (hi : ops[i]? = some oi) (hsel : ∀ (j : Nat) (o : Oper) cs b, ops[j]? = some o → o.op ≠ .select cs b)
    (hs : Region.sinkP md ops p n = true) (hc : Region.chainB md ops n = true) (hn : n < ops.size) (hip : p ≤ i) (hin : i < n)
    (hR0 : ∀ w, R w w) (hRt : ∀ a b c, R a b → R b c → R a c) (hRS : ∀ w w', R w w' → S w → S w')
    (hQ : ∀ c a w, Q (.panic c) (Act.put a oi.dst v) w → Q (.panic c) a w)
    (hdone : ∀ listed a w, L listed a w → ∀ j ∈ Region.ready md ops listed, n ≤ j) :
    ∀ (f : Nat) (listed : Array Bool) (a : Act) (w : World), HeadInv md ops n listed →
      (∀ j oj, ops[j]? = some oj → j ≠ i → listed.getD j true = false → (∀ e ∈ oj.after, Region.binds md e = true → e.on ≠ i) → oi.apart ops oj = true) →
      i ∈ Region.ready md ops listed → YieldsR P ops R S oi v a w →
      wpAnyR P md ops Q R S n L f (listed.setIfInBounds i true) (a.put oi.dst v) w → wpAnyR P md ops Q R S n L (f + 1) listed a w := by
  intro f
  induction f with
  | zero =>
    intro listed a w inv _ hr hy H w1 h1 hS1
    refine ⟨fun h => (by rw [h] at hr; cases hr), fun j hj => ?_⟩
    have hjn : j < n := by
      rcases Nat.lt_or_ge j n with h | h
      · exact h
      · exact absurd hj (tail_waitsP hs hc hn inv _ i rfl hip hin (mem_ready.1 hr).1 j h)
    refine ⟨hjn, ?_⟩
    by_cases hji : j = i
    · subst hji
      exact hy.wpOp hR0 hi h1 hS1 (fun w' hr' => ⟨hr', hRS _ _ hr' hS1, wpAnyR.go hRt (hRt _ _ _ h1 hr') H⟩)
    · have := hdone _ _ _ (H w1 h1 hS1) j (ready_mono hj hji)
      omega
  | succ f ih =>
    intro listed a w inv hfree hr hy H w1 hw1 hS1
    have hun := (mem_ready.1 hr).1
    refine ⟨fun h => (by rw [h] at hr; cases hr), fun j hj => ?_⟩
    have hjn : j < n := by
      rcases Nat.lt_or_ge j n with h | h
      · exact h
      · exact absurd hj (tail_waitsP hs hc hn inv _ i rfl hip hin hun j h)
    refine ⟨hjn, ?_⟩
    by_cases hji : j = i
    · subst hji
      exact hy.wpOp hR0 hi hw1 hS1 (fun w' hr' => ⟨hr', hRS _ _ hr' hS1, wpAnyR.go hRt (hRt _ _ _ hw1 hr') H⟩)
    · have h1 := ((H w1 hw1 hS1).2 j (ready_mono hj hji)).2
      obtain ⟨hjun, oj, hoj, hall⟩ := mem_ready.1 hj
      have hnot : ∀ e ∈ oj.after, Region.binds md e = true → e.on ≠ i := fun e he hb heq => by
        have h1 := hall e he hb
        rw [heq, getD_both hun] at h1
        cases h1
      have h2 := wpOp_put2 hoj (hfree j oj hoj hji hjun hnot) (fun cs b => hsel i oi cs b hi) (fun cs b => hsel j oj cs b hoj) hQ h1
      have hfree' : ∀ k ok, ops[k]? = some ok → k ≠ i → (listed.setIfInBounds j true).getD k true = false →
          (∀ e ∈ ok.after, Region.binds md e = true → e.on ≠ i) → oi.apart ops ok = true := fun k ok hk hki hun hno => by
        refine hfree k ok hk hki ?_ hno
        by_cases hjk : j = k
        · subst hjk; exact hjun
        · rw [getD_set_ne true hjk] at hun; exact hun
      refine wpOp_mono (fun a' w' h3 => ⟨h3.2.1, h3.2.2.1, ih (listed.setIfInBounds j true) a' w' (inv.set hj hjn) hfree' (ready_mono hr (Ne.symm hji)) (hy.go hRt (hRt _ _ _ hw1 h3.2.1) h3.1.1 h3.1.2) ?_⟩) h2
      rw [Array.setIfInBounds_comm _ _ hji]
      exact h3.2.2.2

def pickN : List Oper → List Nat → List (Nat × Oper)
  | _, [] => []
  | l, i :: r => match l.drop i with
    | o :: _ => (i, o) :: pickN l r
    | [] => pickN l r

theorem pickN_spec {l : List Oper} : ∀ {q : List Nat} {x : Nat × Oper}, x ∈ pickN l q → l[x.1]? = some x.2 ∧ x.1 ∈ q
  | [], _, h => by simp [pickN] at h
  | i :: r, x, h => by
    unfold pickN at h
    split at h
    · rename_i o rest hd
      rcases List.mem_cons.1 h with rfl | h
      · have : (l.drop i)[0]? = some o := by rw [hd]; rfl
        rw [List.getElem?_drop] at this
        exact ⟨by simpa using this, by simp⟩
      · exact ⟨(pickN_spec h).1, List.mem_cons_of_mem _ (pickN_spec h).2⟩
    · exact ⟨(pickN_spec h).1, List.mem_cons_of_mem _ (pickN_spec h).2⟩

/-- The middle in the order of our choice. -/
def wpMid (P : Program) (ops : Array Oper) (Q : Exit → Act → World → Prop) (R : World → World → Prop) (S : World → Prop) (odd : List Nat) (L : Act → World → Prop) : List (Nat × Oper) → Act → World → Prop
  | [], a, w => ∀ w1, R w w1 → S w1 → L a w1
  | x :: r, a, w =>
    if odd.contains x.1 = true then ∀ w1, R w w1 → S w1 → wpOp P ops Q x.1 (fun a' w' => R w1 w' ∧ S w' ∧ wpMid P ops Q R S odd L r a' w') a w1
    else ∃ v, YieldsR P ops R S x.2 v a w ∧ wpMid P ops Q R S odd L r (a.put x.2.dst v) w

def Region.walkO (md : Region.Mode) (ops : Array Oper) (odd : List Nat) : List (Nat × Oper) → Array Bool → (Array Bool → Bool) → Bool
  | [], listed, fin => fin listed
  | x :: r, listed, fin => (if odd.contains x.1 = true then decide (Region.ready md ops listed = [x.1]) else (Region.ready md ops listed).contains x.1 && Region.free md ops listed x.1) && Region.walkO md ops odd r (listed.setIfInBounds x.1 true) fin

theorem wpAnyR_mid {p n : Nat} {odd : List Nat} {fin : Array Bool → Bool} {Lq : Act → World → Prop} (hsel : Region.noSelect ops = true) (hs : Region.sinkP md ops p n = true) (hc : Region.chainB md ops n = true) (hn : n < ops.size)
    (hR0 : ∀ w, R w w) (hRt : ∀ a b c, R a b → R b c → R a c) (hRS : ∀ w w', R w w' → S w → S w')
    (hQ : ∀ d c a v w, Q (.panic c) (Act.put a d v) w → Q (.panic c) a w)
    (hfin : ∀ listed, fin listed = true → ∀ j ∈ Region.ready md ops listed, n ≤ j) :
    ∀ (l : List (Nat × Oper)) (listed : Array Bool) (a : Act) (w : World), (∀ x ∈ l, ops[x.1]? = some x.2 ∧ p ≤ x.1 ∧ x.1 < n) → HeadInv md ops n listed →
    Region.walkO md ops odd l listed fin = true → wpMid P ops Q R S odd Lq l a w →
    wpAnyR P md ops Q R S n (fun listed' a' w' => HeadInv md ops n listed' ∧ fin listed' = true ∧ Lq a' w') l.length listed a w
  | [], listed, a, w, _, inv, hB, h => fun w1 h1 hS1 => ⟨inv, by simpa [Region.walkO] using hB, h w1 h1 hS1⟩
  | x :: l, listed, a, w, hl, inv, hB, h => by
    obtain ⟨h0, hp, hkn⟩ := hl x (List.mem_cons_self ..)
    have hl' : ∀ y ∈ l, ops[y.1]? = some y.2 ∧ p ≤ y.1 ∧ y.1 < n := fun y hy => hl y (List.mem_cons_of_mem _ hy)
    rw [wpMid] at h
    simp only [Region.walkO, Bool.and_eq_true] at hB
    obtain ⟨hB1, hB'⟩ := hB
    by_cases hsp : odd.contains x.1 = true
    · rw [if_pos hsp] at h hB1
      have hB1 := of_decide_eq_true hB1
      have hr' : x.1 ∈ Region.ready md ops listed := by rw [hB1]; simp
      intro w1 h1 hS1
      refine ⟨by rw [hB1]; simp, fun i hi => ?_⟩
      rw [hB1] at hi
      obtain rfl : i = x.1 := by simpa using hi
      exact ⟨hkn, wpOp_mono (fun a' w' h' => ⟨h'.1, h'.2.1, wpAnyR_mid hsel hs hc hn hR0 hRt hRS hQ hfin l _ a' w' hl' (inv.set hr' hkn) hB' h'.2.2⟩) (h w1 h1 hS1)⟩
    · rw [if_neg hsp] at h hB1
      simp only [Bool.and_eq_true] at hB1
      have hr' : x.1 ∈ Region.ready md ops listed := by simpa using hB1.1
      obtain ⟨v, hy, hK⟩ := h
      exact wpAnyR_first h0 (Region.noSelect_spec hsel) hs hc hn hp hkn hR0 hRt hRS (fun c a w => hQ _ c a v w) (fun listed' a' w' hL => hfin listed' hL.2.1) l.length listed a w inv (Region.free_spec h0 hB1.2) hr' hy
        (wpAnyR_mid hsel hs hc hn hR0 hRt hRS hQ hfin l _ _ w hl' (inv.set hr' hkn) hB' hK)

theorem wpMid_nil {odd : List Nat} {L : Act → World → Prop} {a : Act} {w : World} (h : ∀ w1, R w w1 → S w1 → L a w1) : wpMid P ops Q R S odd L [] a w := h
/-- What only reads. -/
theorem wpMid_q {odd : List Nat} {L : Act → World → Prop} {k : Nat} {o : Oper} {r : List (Nat × Oper)} {a : Act} {w : World} (hk : odd.contains k = false) (hg : o.guard = none)
    (h : ∃ v, (∀ w, S w → (execOp a.eval o).run P w = .ok (.value v) w) ∧ wpMid P ops Q R S odd L r (a.put o.dst v) w) : wpMid P ops Q R S odd L ((k, o) :: r) a w := by
  obtain ⟨v, h1, h2⟩ := h
  rw [wpMid, if_neg (by simpa using hk)]
  refine ⟨v, .inl ⟨by simp [Region.wanted, hg], fun w1 _ hS1 => ?_⟩, h2⟩
  unfold Oper.quietAt
  rw [h1 w1 hS1]
  exact ⟨rfl, rfl⟩
/-- A call of a fixed value. -/
theorem wpMid_c {odd : List Nat} {L : Act → World → Prop} {k : Nat} {o : Oper} {r : List (Nat × Oper)} {a : Act} {w : World} (hk : odd.contains k = false) (hg : o.guard = none) (f : FuncId) (args : Array Value) (v : Value)
    (he : ∀ w, (execOp a.eval o).run P w = .ok (.enter f args) w) (hc : ∀ w1, R w w1 → Calls P f args w1 fun e w2 => e = .returned v ∧ R w1 w2)
    (h : wpMid P ops Q R S odd L r (a.put o.dst v) w) : wpMid P ops Q R S odd L ((k, o) :: r) a w := by
  rw [wpMid, if_neg (by simpa using hk)]
  refine ⟨v, .inl ⟨by simp [Region.wanted, hg], fun w1 h1 _ => ?_⟩, h⟩
  unfold Oper.quietAt
  rw [he w1]
  exact ⟨rfl, hc w1 h1⟩
/-- An odd one. -/
theorem wpMid_s {odd : List Nat} {L : Act → World → Prop} {k : Nat} {o : Oper} {r : List (Nat × Oper)} {a : Act} {w : World} (hk : odd.contains k = true) (ho : ops[k]? = some o) (hRS : ∀ w w', R w w' → S w → S w')
    (h : ∀ w1, R w w1 → S w1 → ∀ K' : Act → World → Prop, Shut (∀ a' w2, R w1 w2 → (S w2 → wpMid P ops Q R S odd L r a' w2) → K' a' w2) → if Region.wanted o (yielded ops a.tmps) = true then Oper.wp P o a w1 K' Q else K' (a.put o.dst undef) w1) : wpMid P ops Q R S odd L ((k, o) :: r) a w := by
  rw [wpMid, if_pos hk]
  intro w1 h1 hS1
  exact wpOp_step ho (fun K' hK => h w1 h1 hS1 K' (fun a' w2 hr hW => by
    have hS2 := hRS _ _ hr hS1
    exact hK a' w2 ⟨hr, hS2, hW hS2⟩))
end
theorem HeadInv.weak {n n2 : Nat} {listed : Array Bool} (h : HeadInv md ops n listed) (hn : n ≤ n2) : HeadInv md ops n2 listed :=
  ⟨h.size, h.closed, fun t ht ht' => h.tail t (Nat.le_trans hn ht) ht'⟩

/-- The front: what only reads. -/
theorem wpAnyC_front {n n2 g : Nat} {fin : Array Bool → Bool} {Lq : Act → World → Prop} {L2 : Array Bool → Act → World → Prop} (hsel : Region.noSelect ops = true)
    (hs : Region.sinkB md ops n2 = true) (hc : Region.chainB md ops n2 = true) (hn2 : n2 < ops.size) (hn : n ≤ n2)
    (hQ : ∀ d c a v w, Q (.panic c) (Act.put a d v) w → Q (.panic c) a w) (hdone : ∀ listed a w, L2 listed a w → ∀ j ∈ Region.ready md ops listed, n2 ≤ j)
    (hfin : ∀ listed a w, HeadInv md ops n listed → fin listed = true → S w → Lq a w → wpAnyC P md ops Q S n2 L2 g listed a w) :
    ∀ (l : List Oper) (k : Nat) (listed : Array Bool) (a : Act) (w : World), (∀ j, j < l.length → l[j]? = ops[k + j]?) → k + l.length ≤ n → HeadInv md ops n listed → S w →
    Region.walkB md ops [] l.length k listed fin = true → wpCalm P ops Q S [] Lq k l a w → wpAnyC P md ops Q S n2 L2 (l.length + g) listed a w
  | [], k, listed, a, w, _, _, inv, hS, hB, h => by
    rw [List.length_nil, Nat.zero_add]
    exact hfin listed a w inv (by simpa [Region.walkB] using hB) hS h
  | o :: l, k, listed, a, w, hl, hk, inv, hS, hB, h => by
    have h0 : ops[k]? = some o := by simpa using (hl 0 (by simp)).symm
    simp only [List.length_cons, Region.walkB, List.contains_nil, Bool.false_eq_true, if_false, Bool.and_eq_true] at hB
    obtain ⟨⟨hr, hf⟩, hB'⟩ := hB
    rw [wpCalm, if_neg (by simp)] at h
    obtain ⟨v, hy, hK⟩ := h
    have hr' : k ∈ Region.ready md ops listed := by simpa using hr
    have hkn : k < n := by simp only [List.length_cons] at hk; omega
    rw [List.length_cons, show l.length + 1 + g = (l.length + g) + 1 by omega]
    exact wpAnyC_first h0 (Region.noSelect_spec hsel) hs hc hn2 (by omega) (fun c a w => hQ _ c a v w) hdone _ listed a w (inv.weak hn) (Region.free_spec h0 hf) hr' hy hS
      (wpAnyC_front hsel hs hc hn2 hn hQ hdone hfin l (k + 1) _ _ w (fun j hj => by have := hl (j + 1) (by simp; omega); simpa [Nat.add_assoc, Nat.add_comm 1 j] using this) (by simp only [List.length_cons] at hk; omega) (inv.set hr' hkn) hS hB' hK)

def Region.mixB (md : Region.Mode) (ops : Array Oper) (p n n2 : Nat) (q : List (Nat × Oper)) (odd sp : List Nat) : Bool :=
  Region.noSelect ops && decide (p ≤ n) && decide (n < n2) && decide (n2 < ops.size) && decide (q.length = n - p) && q.all (fun x => decide (p ≤ x.1 ∧ x.1 < n)) && Region.sinkP md ops p n && Region.chainB md ops n && Region.sinkB md ops n2 && Region.chainB md ops n2 &&
    Region.walkB md ops [] p 0 (Array.replicate ops.size false) (fun l1 => Region.walkO md ops odd q l1 (fun l2 => decide (Region.ready md ops l2 = [n]) && Region.calmHead md ops sp (ops.size - n2) (n2 - n) n l2))

theorem wp_region_mix {id : Nat} {a : Act} {w : World} {l : List Oper} (R : World → World → Prop) (S : World → Prop) (p n n2 : Nat) (q : List Nat) (odd sp : List Nat) (hm : P.follows .mixedOrders = true)
    (hB : Region.mixB .any l.toArray p n n2 (pickN l q) odd sp = true)
    (hR0 : ∀ w, R w w) (hRt : ∀ a b c, R a b → R b c → R a c) (hRS : ∀ w w', R w w' → S w → S w')
    (hQ : ∀ d c a v w, Q (.panic c) (Act.put a d v) w → Q (.panic c) a w) (hS : S w.drew)
    (h : S w.drew → wpCalm P l.toArray Q S [] (fun a1 w1 => wpMid P l.toArray Q R S odd (fun a2 w2 => wpCalm P l.toArray Q S sp (fun a3 w3 => wpList P l.toArray Q (l.drop n2) a3 w3) n ((l.drop n).take (n2 - n)) a2 w2) (pickN l q) a1 w1) 0 (l.take p) a w.drew) : (Code.region id l.toArray true).wp P Q a w := by
  simp only [Region.mixB, Bool.and_eq_true, decide_eq_true_eq] at hB
  obtain ⟨⟨⟨⟨⟨⟨⟨⟨⟨⟨hsel, hpn⟩, hnn⟩, hn⟩, hql⟩, hqa⟩, hs⟩, hc⟩, hs2⟩, hc2⟩, hw⟩ := hB
  have hn' : n2 < l.length := by simpa using hn
  have htl : (l.take p).length = p := by simp; omega
  have hml : ((l.drop n).take (n2 - n)).length = n2 - n := by simp; omega
  have hdl : (l.drop n2).length = l.toArray.size - n2 := by simp
  have inv0 : HeadInv .any l.toArray n (Array.replicate l.toArray.size false) :=
    ⟨by simp, fun j oj _ hl => (by rw [getD_replicate_false] at hl; cases hl), fun t _ ht => getD_in (by simpa using ht) (getD_replicate_false _ _)⟩
  have hqs : ∀ x ∈ pickN l q, l.toArray[x.1]? = some x.2 ∧ p ≤ x.1 ∧ x.1 < n := fun x hx => by
    have h1 := List.all_eq_true.1 hqa x hx
    simp only [decide_eq_true_eq] at h1
    exact ⟨by simpa using (pickN_spec hx).1, h1.1, h1.2⟩
  have H := wpAnyC_front (md := .any) (n := n) (n2 := n2) (g := (n - p) + (n2 - n)) (L2 := fun listed' a' w' => Region.seqB .any l.toArray (l.toArray.size - n2) n2 listed' = true ∧ wpList P l.toArray Q (l.drop n2) a' w') hsel hs2 hc2 hn (Nat.le_of_lt hnn) hQ (fun listed a w hL => seqB_ready hL.1) (fun listed a1 w1 inv hf hS1 hL => by
    have hq := wpAnyR_mid (md := .any) (p := p) (n := n) (fin := fun l2 => decide (Region.ready .any l.toArray l2 = [n]) && Region.calmHead .any l.toArray sp (l.toArray.size - n2) (n2 - n) n l2) (Lq := fun a2 w2 => wpCalm P l.toArray Q S sp (fun a3 w3 => wpList P l.toArray Q (l.drop n2) a3 w3) n ((l.drop n).take (n2 - n)) a2 w2)
      hsel hs hc (by omega) hR0 hRt hRS hQ (fun listed' hf' j hj => by
      simp only [Bool.and_eq_true, decide_eq_true_eq] at hf'
      rw [hf'.1] at hj
      have := List.mem_singleton.1 hj
      omega) (pickN l q) listed a1 w1 hqs inv hf hL
    rw [hql] at hq
    refine wpAnyC_of_R (Nat.le_of_lt hnn) hR0 (fun listed' a' w' hw' hL' => ?_) _ listed a1 w1 hS1 hq
    have hf' := hL'.2.1
    simp only [Bool.and_eq_true, decide_eq_true_eq] at hf'
    have := wpAnyC_calm (md := .any) (sp := sp) (g := l.toArray.size - n2) hsel hs2 hc2 hn hQ ((l.drop n).take (n2 - n)) n listed' a' w' (fun j hj => by
      rw [hml] at hj
      simp [hj, List.getElem?_drop]) (by rw [hml]; omega) (hL'.1.weak (Nat.le_of_lt hnn)) hw' (by rw [hml]; exact hf'.2) hL'.2.2
    rwa [hml] at this) (l.take p) 0 _ a _ (fun j hj => by
      rw [htl] at hj
      simp [hj]) (by rw [htl]; omega) inv0 hS (by rw [htl]; exact hw) (h hS)
  refine wp_region_any hm ?_
  have := wpAny_of_headC (g := l.toArray.size - n2) (fun listed a' w' hL => by
    have := wpAny_of_seq (md := .any) (Q' := Q) (l.drop n2) n2 listed a' w' (fun j => by simp [List.getElem?_drop]) (by rw [hdl]; exact hL.1) hL.2
    rwa [hdl] at this) _ _ _ _ H
  rw [htl, show p + ((n - p) + (n2 - n)) + (l.toArray.size - n2) = l.toArray.size by omega] at this
  exact this
end
end Go
