/- A region that draws its order, in which some operations float: they wait for nothing and only the tail waits for them (the alloc of a variable beside the calls that its value comes of). What they give is known by an assertion that abides whatever the others do. The others are walked in an order of our choice. -/
import Derived.Test.YtjigbkklgekjlaaBaseR
import Derived.Test.YtjigbkklgekjlaaBaseB
namespace Go
structure Flt where
  idx : Nat
  o : Oper
  V : Value → World → Prop
section
variable {P : Program} {ops : Array Oper} {md : Region.Mode} {S : World → Prop} {Q : Exit → Act → World → Prop} {R0 R : World → World → Prop} {Old : Value → World → Prop}

def Lfl (R0 : World → World → Prop) : List Flt → List Value → (Act → World → Prop) → Act → World → Prop
  | [], _, L, a, w => L a w
  | f :: r, tk, L, a, w => ∀ v w1, R0 w w1 → f.V v w1 → (∀ u ∈ tk, u ≠ v) → Lfl R0 r (v :: tk) L (a.put f.o.dst v) w1

def wpMidF (P : Program) (ops : Array Oper) (Q : Exit → Act → World → Prop) (R0 R : World → World → Prop) (S : World → Prop) (odd : List Nat) (L : Act → World → Prop) : List (Nat × Oper) → Act → World → Prop
  | [], a, w => ∀ w1, R0 w w1 → S w1 → L a w1
  | x :: r, a, w =>
    if odd.contains x.1 = true then ∀ w1, R0 w w1 → S w1 → wpOp P ops Q x.1 (fun a' w' => R w1 w' ∧ S w' ∧ wpMidF P ops Q R0 R S odd L r a' w') a w1
    else ∃ v, YieldsIf P ops S x.2 v a ∧ wpMidF P ops Q R0 R S odd L r (a.put x.2.dst v) w

theorem Lfl.tk {L : Act → World → Prop} : ∀ {fl : List Flt} {tk tk' : List Value} {a : Act} {w : World}, (∀ u ∈ tk, u ∈ tk') → Lfl R0 fl tk L a w → Lfl R0 fl tk' L a w
  | [], _, _, _, _, _, h => h
  | f :: r, tk, tk', a, w, ht, h => fun v w1 h1 h2 h3 => Lfl.tk (fun u hu => by
      rcases List.mem_cons.1 hu with rfl | hu
      · simp
      · exact List.mem_cons_of_mem _ (ht u hu)) (h v w1 h1 h2 (fun u hu => h3 u (ht u hu)))

/-- One of the floats is done. -/
theorem Lfl.done (hR0 : ∀ w, R0 w w) (hRt : ∀ a b c, R0 a b → R0 b c → R0 a c) {L : Act → World → Prop} {f : Flt} {post : List Flt} {v : Value} (hst : ∀ w w', R0 w w' → f.V v w → f.V v w') :
    ∀ {pre : List Flt} {tk : List Value} {a : Act} {w w2 : World}, (∀ g ∈ pre, ∀ d, f.o.dst = some d → g.o.dst ≠ some d) → Lfl R0 (pre ++ f :: post) tk L a w → R0 w w2 → f.V v w2 → (∀ u ∈ tk, u ≠ v) →
      Lfl R0 (pre ++ post) (v :: tk) L (a.put f.o.dst v) w2
  | [], tk, a, w, w2, _, h, h1, h2, h3 => h v w2 h1 h2 h3
  | g :: pre, tk, a, w, w2, hd, h, h1, h2, h3 => fun vg w3 h4 h5 h6 => by
    have := Lfl.done hR0 hRt hst (fun g' hg' => hd g' (List.mem_cons_of_mem _ hg')) (h vg w3 (hRt _ _ _ h1 h4) h5 (fun u hu => h6 u (List.mem_cons_of_mem _ hu))) (hR0 w3) (hst _ _ h4 h2) (fun u hu => by
      rcases List.mem_cons.1 hu with rfl | hu
      · exact Ne.symm (h6 v (List.mem_cons_self ..))
      · exact h3 u hu)
    rw [← Act.put_comm a v vg (hd g (List.mem_cons_self ..))] at this
    exact Lfl.tk (fun u hu => by
      simp only [List.mem_cons] at hu ⊢
      rcases hu with rfl | rfl | hu
      · exact .inr (.inl rfl)
      · exact .inl rfl
      · exact .inr (.inr hu)) this

/-- Whether a value is already in a temporary at which 'oj' doesn't look makes no difference to it. -/
theorem wpOp_put3 {j : Nat} {oi oj : Oper} {v : Value} (hj : ops[j]? = some oj) (hap : oi.apart ops oj = true)
    (hsj : ∀ cs b, oj.op ≠ .select cs b)
    (hQ : ∀ c a w, Q (.panic c) a w → Q (.panic c) (a.put oi.dst v) w) {K : Act → World → Prop} {a : Act} {w : World}
    (h : wpOp P ops Q j K a w) :
    wpOp P ops Q j (fun a' w' => ∃ a0, a' = a0.put oi.dst v ∧ K a0 w') (a.put oi.dst v) w := by
  obtain ⟨h1, h2, h3⟩ := Oper.apart_spec hap
  unfold wpOp at *
  simp only [hj] at *
  rw [wanted_put oj a oi.dst v h1]
  split
  · rename_i hw
    simp only [hw, if_true] at h
    rcases h with h | ⟨hasks, hlets⟩
    case inr => exact .inr ⟨by unfold Oper.asks at *; rw [execOp_put oj hsj a oi.dst v h1]; exact hasks, hlets⟩
    refine .inl ?_
    unfold Oper.wp at *
    rw [execOp_put oj hsj a oi.dst v h1]
    generalize (execOp a.eval oj).run P w = r at *
    cases r with
    | ok n w' =>
      cases n <;> simp only [Oper.upon] at h ⊢
      case value u => exact ⟨_, (Act.put_comm a v u h2).symm ▸ rfl, h⟩
      case skip => exact ⟨_, (Act.put_comm a v undef h2).symm ▸ rfl, h⟩
      case defer d =>
        refine ⟨_, ?_, h⟩
        rw [← Act.put_comm _ v undef h2, Act.put_defers]
      case enter f args =>
        refine Calls.mono h fun e w'' he => ?_
        cases e with
        | returned u => exact ⟨_, (Act.put_comm a v u h2).symm ▸ rfl, he⟩
        | panicked c => exact hQ _ _ _ he
        | outgrown => exact he
      case row row args => exact Rows.mono h fun u w'' he => ⟨_, (Act.put_comm a v u h2).symm ▸ rfl, he⟩
    | halt x w' =>
      cases x <;> simp only [Oper.upon] at h ⊢
      case panic u => exact hQ _ _ _ h
  · rename_i hw
    simp only [hw] at h
    exact ⟨_, (Act.put_comm a v undef h2).symm ▸ rfl, h⟩

theorem wpMidF_put {odd : List Nat} (hsel : Region.noSelect ops = true) (hR0 : ∀ w, R0 w w) (hRt : ∀ a b c, R0 a b → R0 b c → R0 a c) {L : Act → World → Prop} {f : Flt} {pre post : List Flt} {tk : List Value} {v : Value}
    (hst0 : ∀ w w', R0 w w' → f.V v w → f.V v w') (hst : ∀ w w', R w w' → f.V v w → f.V v w') (hpre : ∀ g ∈ pre, ∀ d, f.o.dst = some d → g.o.dst ≠ some d)
    (hQ : ∀ c a w, Q (.panic c) a w → Q (.panic c) (a.put f.o.dst v) w) (htk : ∀ u ∈ tk, u ≠ v) :
    ∀ {l : List (Nat × Oper)} {a : Act} {w w2 : World}, (∀ x ∈ l, ops[x.1]? = some x.2 ∧ f.o.apart ops x.2 = true) → wpMidF P ops Q R0 R S odd (Lfl R0 (pre ++ f :: post) tk L) l a w → R0 w w2 → f.V v w2 →
      wpMidF P ops Q R0 R S odd (Lfl R0 (pre ++ post) (v :: tk) L) l (a.put f.o.dst v) w2
  | [], a, w, w2, _, h, h1, h2 => fun w3 h3 hS => Lfl.done hR0 hRt hst0 hpre (h w3 (hRt _ _ _ h1 h3) hS) (hR0 w3) (hst0 _ _ h3 h2) htk
  | x :: l, a, w, w2, hl, h, h1, h2 => by
    obtain ⟨h0, hap⟩ := hl x (List.mem_cons_self ..)
    have hl' := fun y hy => hl y (List.mem_cons_of_mem x hy)
    rw [wpMidF] at h ⊢
    split
    · rename_i hsp
      rw [if_pos hsp] at h
      intro w3 h3 hS
      refine wpOp_mono ?_ (wpOp_put3 h0 hap (fun cs b => Region.noSelect_spec hsel x.1 x.2 cs b h0) hQ (h w3 (hRt _ _ _ h1 h3) hS))
      rintro a' w' ⟨a0, rfl, hr, hs', hm⟩
      exact ⟨hr, hs', wpMidF_put hsel hR0 hRt hst0 hst hpre hQ htk hl' hm (hR0 w') (hst _ _ hr (hst0 _ _ h3 h2))⟩
    · rename_i hsp
      rw [if_neg hsp] at h
      obtain ⟨u, hy, hm⟩ := h
      obtain ⟨a1, a2, a3⟩ := Oper.apart_spec hap
      refine ⟨u, ?_, ?_⟩
      · unfold YieldsIf at *
        rw [wanted_put x.2 a f.o.dst v a1, execOp_put x.2 (fun cs b => Region.noSelect_spec hsel x.1 x.2 cs b h0) a f.o.dst v a1]
        exact hy
      · rw [Act.put_comm a v u a2]
        exact wpMidF_put hsel hR0 hRt hst0 hst hpre hQ htk hl' hm h1 h2

theorem wpMidF.go {odd : List Nat} (hRt : ∀ a b c, R0 a b → R0 b c → R0 a c) {L : Act → World → Prop} : ∀ {l : List (Nat × Oper)} {a : Act} {w w2 : World}, R0 w w2 → wpMidF P ops Q R0 R S odd L l a w → wpMidF P ops Q R0 R S odd L l a w2
  | [], a, w, w2, h1, h => fun w3 h3 hS => h w3 (hRt _ _ _ h1 h3) hS
  | x :: l, a, w, w2, h1, h => by
    rw [wpMidF] at h ⊢
    split
    · rename_i hsp
      rw [if_pos hsp] at h
      exact fun w3 h3 hS => h w3 (hRt _ _ _ h1 h3) hS
    · rename_i hsp
      rw [if_neg hsp] at h
      obtain ⟨u, hy, hm⟩ := h
      exact ⟨u, hy, wpMidF.go hRt h1 hm⟩

theorem wpMidF.mono {odd : List Nat} {L L' : Act → World → Prop} (hL : ∀ a w, L a w → L' a w) : ∀ {l : List (Nat × Oper)} {a : Act} {w : World}, wpMidF P ops Q R0 R S odd L l a w → wpMidF P ops Q R0 R S odd L' l a w
  | [], a, w, h => fun w3 h3 hS => hL _ _ (h w3 h3 hS)
  | x :: l, a, w, h => by
    rw [wpMidF] at h ⊢
    split
    · rename_i hsp
      rw [if_pos hsp] at h
      exact fun w3 h3 hS => wpOp_mono (fun a' w' h' => ⟨h'.1, h'.2.1, wpMidF.mono hL h'.2.2⟩) (h w3 h3 hS)
    · rename_i hsp
      rw [if_neg hsp] at h
      obtain ⟨u, hy, hm⟩ := h
      exact ⟨u, hy, wpMidF.mono hL hm⟩

def Region.walkF (md : Region.Mode) (ops : Array Oper) (odd all : List Nat) (n g : Nat) : List (Nat × Oper) → Array Bool → Bool
  | [], base => (List.range n).all (fun j => all.contains j || base.getD j false) && Region.seqB md ops g n (all.foldl (fun b i => b.setIfInBounds i true) base)
  | x :: r, base => !all.contains x.1 && (if odd.contains x.1 = true then decide ((Region.ready md ops base).filter (fun i => !all.contains i) = [x.1]) else (Region.ready md ops base).contains x.1 && Region.free md ops base x.1) && Region.walkF md ops odd all n g r (base.setIfInBounds x.1 true)
def Region.noDep (ops : Array Oper) (all : List Nat) (n : Nat) : Bool :=
  (List.range n).all fun j => match ops[j]? with | some o => o.after.all (fun e => !all.contains e.on) | none => true

theorem foldl_set_get (all : List Nat) : ∀ (b : Array Bool) (j : Nat), (all.foldl (fun b i => b.setIfInBounds i true) b).size = b.size ∧ ((j ∉ all → (all.foldl (fun b i => b.setIfInBounds i true) b)[j]? = b[j]?) ∧ (j ∈ all → j < b.size → (all.foldl (fun b i => b.setIfInBounds i true) b)[j]? = some true)) := by
  induction all with
  | nil => intro b j; simp
  | cons i r ih =>
    intro b j
    obtain ⟨h1, h2, h3⟩ := ih (b.setIfInBounds i true) j
    refine ⟨by simpa using h1, fun hj => ?_, fun hj hlt => ?_⟩
    · rw [List.foldl_cons, h2 (fun h => hj (List.mem_cons_of_mem _ h)), Array.getElem?_setIfInBounds_ne (fun e => hj (by rw [e]; simp))]
    · rw [List.foldl_cons]
      by_cases hr : j ∈ r
      · exact h3 hr (by simpa using hlt)
      · rw [h2 hr]
        have : i = j := by
          rcases List.mem_cons.1 hj with e | e
          · exact e.symm
          · exact absurd e hr
        subst this
        simp [hlt]

/-- What is done of the floats beside the canonical list. -/
structure FInv (ops : Array Oper) (all : List Nat) (fl : List Flt) (n : Nat) (base listed : Array Bool) : Prop where
  size : listed.size = base.size
  agree : ∀ j, j ∉ all → listed[j]? = base[j]?
  base0 : ∀ j ∈ all, base.getD j true = false
  pend : ∀ f ∈ fl, ops[f.idx]? = some f.o ∧ f.idx < n ∧ f.o.after = #[] ∧ f.idx ∈ all ∧ listed.getD f.idx true = false
  done : ∀ i ∈ all, (∀ f ∈ fl, f.idx ≠ i) → listed.getD i false = true
  nodup : (fl.map Flt.idx).Nodup

theorem getD_of_get {a b : Array Bool} {j : Nat} (h : a[j]? = b[j]?) (d : Bool) : a.getD j d = b.getD j d := by
  simp only [Array.getD_eq_getD_getElem?, h]

theorem FInv.ready {all : List Nat} {fl : List Flt} {n : Nat} {base listed : Array Bool} (h : FInv ops all fl n base listed) (hno : Region.noDep ops all n = true) {j : Nat} (hj : j ∉ all) (hn : j < n) : j ∈ Region.ready md ops listed ↔ j ∈ Region.ready md ops base := by
  rw [mem_ready, mem_ready, getD_of_get (h.agree j hj)]
  have h1 := List.all_eq_true.1 hno j (List.mem_range.2 hn)
  constructor
  all_goals (
    rintro ⟨a1, o, ho, a2⟩
    refine ⟨a1, o, ho, fun e he hb => ?_⟩
    rw [ho] at h1
    have h3 := Array.all_eq_true_iff_forall_mem.1 h1 e he
    have h4 : e.on ∉ all := by simpa using h3
    have := a2 e he hb)
  · rw [getD_of_get (h.agree _ h4)] at this; exact this
  · rw [getD_of_get (h.agree _ h4)]; exact this

theorem FInv.set {all : List Nat} {fl : List Flt} {n : Nat} {base listed : Array Bool} (h : FInv ops all fl n base listed) {i : Nat} (hi : i ∉ all) : FInv ops all fl n (base.setIfInBounds i true) (listed.setIfInBounds i true) where
  size := by simp [h.size]
  agree := fun j hj => by
    by_cases hij : i = j
    · subst hij
      rw [Array.getElem?_setIfInBounds, Array.getElem?_setIfInBounds, if_pos rfl, if_pos rfl, h.size]
    · rw [Array.getElem?_setIfInBounds_ne hij, Array.getElem?_setIfInBounds_ne hij]; exact h.agree j hj
  base0 := fun j hj => by rw [getD_set_ne true (fun e => hi (by rw [e]; exact hj))]; exact h.base0 j hj
  pend := fun f hf => by
    obtain ⟨a1, a2, a3, a4, a5⟩ := h.pend f hf
    exact ⟨a1, a2, a3, a4, by rw [getD_set_ne true (fun e => hi (by rw [e]; exact a4))]; exact a5⟩
  done := fun j hj hf => by rw [getD_set_ne false (fun e => hi (by rw [e]; exact hj))]; exact h.done j hj hf
  nodup := h.nodup

theorem FInv.flt {all : List Nat} {pre post : List Flt} {f : Flt} {n : Nat} {base listed : Array Bool} (h : FInv ops all (pre ++ f :: post) n base listed) : FInv ops all (pre ++ post) n base (listed.setIfInBounds f.idx true) := by
  obtain ⟨a1, a2, a3, a4, a5⟩ := h.pend f (by simp)
  have hnd := h.nodup
  rw [List.map_append, List.map_cons, List.nodup_append] at hnd
  have hne : ∀ g ∈ pre ++ post, g.idx ≠ f.idx := by
    intro g hg e
    rcases List.mem_append.1 hg with hg | hg
    · exact hnd.2.2 g.idx (List.mem_map_of_mem hg) f.idx (by simp) e
    · exact (List.nodup_cons.1 hnd.2.1).1 (e ▸ List.mem_map_of_mem hg)
  refine ⟨by simp [h.size], fun j hj => ?_, h.base0, fun g hg => ?_, fun i hi hf => ?_, ?_⟩
  · rw [Array.getElem?_setIfInBounds_ne (fun e => hj (by rw [← e]; exact a4))]; exact h.agree j hj
  · obtain ⟨b1, b2, b3, b4, b5⟩ := h.pend g (by
      rcases List.mem_append.1 hg with hg | hg
      · simp [hg]
      · simp [hg])
    exact ⟨b1, b2, b3, b4, by rw [getD_set_ne true (fun e => hne g hg e.symm)]; exact b5⟩
  · by_cases hif : f.idx = i
    · subst hif
      have hlt : f.idx < listed.size := by
        rcases Nat.lt_or_ge f.idx listed.size with h | h
        · exact h
        · simp [h] at a5
      simp [hlt]
    · rw [getD_set_ne false hif]
      refine h.done i hi (fun g hg => ?_)
      rcases List.mem_append.1 hg with hg | hg
      · exact hf g (List.mem_append_left _ hg)
      · rcases List.mem_cons.1 hg with rfl | hg
        · exact hif
        · exact hf g (List.mem_append_right _ hg)
  · rw [List.map_append, List.nodup_append]
    refine ⟨hnd.1, (List.nodup_cons.1 hnd.2.1).2, fun x hx y hy => hnd.2.2 x hx y (List.mem_cons_of_mem _ hy)⟩

/-- What carrying out a float comes to. -/
def FltOk (P : Program) (ops : Array Oper) (Q : Exit → Act → World → Prop) (R0 : World → World → Prop) (S : World → Prop) (Old : Value → World → Prop) (f : Flt) : Prop :=
  ∀ (a : Act) (w : World) (K : Act → World → Prop), S w → (∀ v w', R0 w w' → S w' → f.V v w' → (∀ u, Old u w → u ≠ v) → Old v w' → K (a.put f.o.dst v) w') → wpOp P ops Q f.idx K a w

theorem wpAnyC_F {n g : Nat} {odd all : List Nat} {L : Act → World → Prop} (hsel : Region.noSelect ops = true) (hs : Region.sinkB md ops n = true) (hc : Region.chainB md ops n = true) (hn : n < ops.size) (hno : Region.noDep ops all n = true)
    (hR0 : ∀ w, R0 w w) (hRt : ∀ a b c, R0 a b → R0 b c → R0 a c)
    (hQ : ∀ d c a v w, Q (.panic c) (Act.put a d v) w → Q (.panic c) a w) (hQ2 : ∀ d c a v w, Q (.panic c) a w → Q (.panic c) (Act.put a d v) w)
    (hOld0 : ∀ u w w', R0 w w' → Old u w → Old u w') (hOld : ∀ u w w', R w w' → Old u w → Old u w') :
    ∀ (k : Nat) (l : List (Nat × Oper)) (fl : List Flt) (tk : List Value) (listed base : Array Bool) (a : Act) (w : World), k = l.length + fl.length →
      (∀ f ∈ fl, FltOk P ops Q R0 S Old f ∧ (∀ v w w', R0 w w' → f.V v w → f.V v w') ∧ (∀ v w w', R w w' → f.V v w → f.V v w')) →
      (∀ f ∈ fl, ∀ x ∈ l, f.o.apart ops x.2 = true) → (∀ f ∈ fl, ∀ g ∈ fl, f.idx ≠ g.idx → ∀ d, f.o.dst = some d → g.o.dst ≠ some d) →
      (∀ x ∈ l, ops[x.1]? = some x.2 ∧ x.1 < n) → HeadInv md ops n listed → FInv ops all fl n base listed → S w → (∀ u ∈ tk, Old u w) →
      Region.walkF md ops odd all n g l base = true → wpMidF P ops Q R0 R S odd (Lfl R0 fl tk L) l a w →
      wpAnyC P md ops Q S n (fun listed' a' w' => Region.seqB md ops g n listed' = true ∧ L a' w') k listed a w := by
  intro k
  induction k with
  | zero =>
    intro l fl tk listed base a w hk hfs hap hdd hl inv fi hS htk hB h
    obtain rfl : l = [] := List.length_eq_zero_iff.1 (by omega)
    obtain rfl : fl = [] := List.length_eq_zero_iff.1 (by omega)
    simp only [Region.walkF, Bool.and_eq_true] at hB
    refine ⟨?_, h w (hR0 w) hS⟩
    have : listed = all.foldl (fun b i => b.setIfInBounds i true) base := by
      apply Array.ext_getElem?
      intro j
      obtain ⟨h1, h2, h3⟩ := foldl_set_get all base j
      by_cases hj : j ∈ all
      · have hd := fi.done j hj (by simp)
        have hlt : j < listed.size := by
          rcases Nat.lt_or_ge j listed.size with h | h
          · exact h
          · simp [h] at hd
        rw [h3 hj (by rw [← fi.size]; exact hlt)]
        simp [hlt] at hd ⊢
        exact hd
      · rw [h2 hj]; exact fi.agree j hj
    rw [this]
    exact hB.2
  | succ k ih =>
    intro l fl tk listed base a w hk hfs hap hdd hl inv fi hS htk hB h
    -- a float may be carried out
    have hflt : ∀ f ∈ fl, f.idx ∈ Region.ready md ops listed ∧ f.idx < n ∧ wpOp P ops Q f.idx (fun a' w' => S w' ∧ wpAnyC P md ops Q S n (fun listed' a' w' => Region.seqB md ops g n listed' = true ∧ L a' w') k (listed.setIfInBounds f.idx true) a' w') a w := by
      intro f hf
      obtain ⟨p1, p2, p3, p4, p5⟩ := fi.pend f hf
      have hrd : f.idx ∈ Region.ready md ops listed := mem_ready.2 ⟨p5, f.o, p1, fun e he => by rw [p3] at he; simp at he⟩
      refine ⟨hrd, p2, ?_⟩
      obtain ⟨pre, post, rfl⟩ := List.append_of_mem hf
      obtain ⟨hok, hst0, hst⟩ := hfs f hf
      refine hok a w _ hS (fun v w' h1 hS' h2 h3 h4 => ⟨hS', ?_⟩)
      have hsub : ∀ g, g ∈ pre ++ post → g ∈ pre ++ f :: post := fun g hg => by
        rcases List.mem_append.1 hg with hg | hg
        · simp [hg]
        · simp [hg]
      have hnd := fi.nodup
      rw [List.map_append, List.map_cons, List.nodup_append] at hnd
      refine ih l (pre ++ post) (v :: tk) _ base _ w' (by simp at hk ⊢; omega) (fun g hg => hfs g (hsub g hg)) (fun g hg => hap g (hsub g hg)) (fun g hg g' hg' => hdd g (hsub g hg) g' (hsub g' hg')) hl (inv.set hrd p2) fi.flt hS' ?_ hB ?_
      · intro u hu
        rcases List.mem_cons.1 hu with rfl | hu
        · exact h4
        · exact hOld0 _ _ _ h1 (htk u hu)
      · exact wpMidF_put hsel hR0 hRt (hst0 v) (hst v) (fun g hg => hdd f hf g (by simp [hg]) (fun e => hnd.2.2 g.idx (List.mem_map_of_mem hg) f.idx (by simp) e.symm)) (fun c a w => hQ2 _ c a v w) (fun u hu => h3 u (htk u hu)) (fun x hx => ⟨(hl x hx).1, hap f hf x hx⟩) h h1 h2
    cases l with
    | nil =>
      simp only [Region.walkF, Bool.and_eq_true] at hB
      cases fl with
      | nil => simp at hk
      | cons f0 r0 =>
        obtain ⟨r1, r2, _⟩ := hflt f0 (by simp)
        have hun := (mem_ready.1 r1).1
        refine ⟨fun h => (by rw [h] at r1; cases r1), fun i hi => ?_⟩
        have hin : i < n := by
          rcases Nat.lt_or_ge i n with h | h
          · exact h
          · exact absurd hi (tail_waits hs hc hn inv _ f0.idx rfl r2 hun i h)
        have hia : i ∈ all := by
          have h1 := List.all_eq_true.1 hB.1 i (List.mem_range.2 hin)
          rw [Bool.or_eq_true] at h1
          rcases h1 with h1 | h1
          · simpa using h1
          · by_cases hia : i ∈ all
            · exact hia
            · have h2 := getD_both (mem_ready.1 hi).1
              rw [getD_of_get (fi.agree i hia), h1] at h2
              cases h2
        have hif : ∃ f ∈ f0 :: r0, f.idx = i := by
          by_cases hx : ∃ f ∈ f0 :: r0, f.idx = i
          · exact hx
          · have := fi.done i hia (fun f hf e => hx ⟨f, hf, e⟩)
            rw [getD_both (mem_ready.1 hi).1] at this
            cases this
        obtain ⟨f, hf, rfl⟩ := hif
        exact ⟨hin, (hflt f hf).2.2⟩
    | cons x r =>
      obtain ⟨h0, hxn⟩ := hl x (List.mem_cons_self ..)
      have hl' : ∀ y ∈ r, ops[y.1]? = some y.2 ∧ y.1 < n := fun y hy => hl y (List.mem_cons_of_mem _ hy)
      have hap' : ∀ f ∈ fl, ∀ y ∈ r, f.o.apart ops y.2 = true := fun f hf y hy => hap f hf y (List.mem_cons_of_mem _ hy)
      rw [wpMidF] at h
      simp only [Region.walkF, Bool.and_eq_true] at hB
      obtain ⟨⟨hxa, hB1⟩, hB'⟩ := hB
      have hxa : x.1 ∉ all := by simpa using hxa
      by_cases hsp : odd.contains x.1 = true
      · rw [if_pos hsp] at h hB1
        have hB1 := of_decide_eq_true hB1
        have hrb : x.1 ∈ Region.ready md ops base := (List.mem_filter.1 (show x.1 ∈ (Region.ready md ops base).filter (fun i => !all.contains i) by rw [hB1]; simp)).1
        have hr' : x.1 ∈ Region.ready md ops listed := (fi.ready hno hxa hxn).2 hrb
        refine ⟨fun h => (by rw [h] at hr'; cases hr'), fun i hi => ?_⟩
        have hin : i < n := by
          rcases Nat.lt_or_ge i n with h | h
          · exact h
          · exact absurd hi (tail_waits hs hc hn inv _ x.1 rfl hxn (mem_ready.1 hr').1 i h)
        by_cases hia : i ∈ all
        · have hif : ∃ f ∈ fl, f.idx = i := by
            by_cases hx : ∃ f ∈ fl, f.idx = i
            · exact hx
            · have := fi.done i hia (fun f hf e => hx ⟨f, hf, e⟩)
              rw [getD_both (mem_ready.1 hi).1] at this
              cases this
          obtain ⟨f, hf, rfl⟩ := hif
          exact ⟨hin, (hflt f hf).2.2⟩
        · have hib := (fi.ready hno hia hin).1 hi
          have : i ∈ (Region.ready md ops base).filter (fun i => !all.contains i) := List.mem_filter.2 ⟨hib, by simpa using hia⟩
          rw [hB1] at this
          obtain rfl : i = x.1 := by simpa using this
          refine ⟨hxn, wpOp_mono (fun a' w' h' => ⟨h'.2.1, ?_⟩) (h w (hR0 w) hS)⟩
          exact ih r fl tk _ _ a' w' (by simp at hk; omega) hfs hap' hdd hl' (inv.set hr' hxn) (fi.set hxa) h'.2.1 (fun u hu => hOld _ _ _ h'.1 (htk u hu)) hB' h'.2.2
      · rw [if_neg hsp] at h hB1
        simp only [Bool.and_eq_true] at hB1
        have hrb : x.1 ∈ Region.ready md ops base := by simpa using hB1.1
        have hr' : x.1 ∈ Region.ready md ops listed := (fi.ready hno hxa hxn).2 hrb
        obtain ⟨v, hy, hK⟩ := h
        refine wpAnyC_first h0 (Region.noSelect_spec hsel) hs hc hn hxn (fun c a w => hQ _ c a v w) (fun listed' a' w' hL => seqB_ready hL.1) k listed a w inv (fun j oj hj hne hun hnot => Region.free_spec h0 hB1.2 j oj hj hne ?_ hnot) hr' hy hS
          (ih r fl tk _ _ _ w (by simp at hk; omega) hfs hap' hdd hl' (inv.set hr' hxn) (fi.set hxa) hS htk hB' hK)
        by_cases hja : j ∈ all
        · exact fi.base0 j hja
        · rw [← getD_of_get (fi.agree j hja)]; exact hun

def pickF : List Oper → List (Nat × (Value → World → Prop)) → List Flt
  | _, [] => []
  | l, x :: r => match l.drop x.1 with
    | o :: _ => ⟨x.1, o, x.2⟩ :: pickF l r
    | [] => pickF l r

def Region.fltB (md : Region.Mode) (ops : Array Oper) (n : Nat) (q : List (Nat × Oper)) (odd all : List Nat) : Bool :=
  Region.noSelect ops && decide (n < ops.size) && decide (q.length + all.length = n) && q.all (fun x => decide (x.1 < n)) && Region.sinkB md ops n && Region.chainB md ops n && Region.noDep ops all n && decide all.Nodup &&
    all.all (fun i => decide (i < n) && (match ops[i]? with | some o => o.after.isEmpty && q.all (fun x => o.apart ops x.2) && all.all (fun j => i == j || (match ops[j]? with | some o' => o.dst.isNone || o'.dst != o.dst | none => false)) | none => false)) &&
    Region.walkF md ops odd all n (ops.size - n) q (Array.replicate ops.size false)

theorem wp_region_flt {id : Nat} {a : Act} {w : World} {l : List Oper} (R0 R : World → World → Prop) (Old : Value → World → Prop) (S : World → Prop) (n : Nat) (q : List Nat) (odd : List Nat) (fl : List Flt) (hm : P.follows .mixedOrders = true)
    (hB : Region.fltB .any l.toArray n (pickN l q) odd (fl.map Flt.idx) = true) (hfo : ∀ f ∈ fl, l[f.idx]? = some f.o)
    (hR0 : ∀ w, R0 w w) (hRt : ∀ a b c, R0 a b → R0 b c → R0 a c)
    (hQ : ∀ d c a v w, Q (.panic c) (Act.put a d v) w → Q (.panic c) a w) (hQ2 : ∀ d c a v w, Q (.panic c) a w → Q (.panic c) (Act.put a d v) w)
    (hOld0 : ∀ u w w', R0 w w' → Old u w → Old u w') (hOld : ∀ u w w', R w w' → Old u w → Old u w')
    (hfs : ∀ f ∈ fl, FltOk P l.toArray Q R0 S Old f ∧ (∀ v w w', R0 w w' → f.V v w → f.V v w') ∧ (∀ v w w', R w w' → f.V v w → f.V v w')) (hS : S w.drew)
    (h : S w.drew → wpMidF P l.toArray Q R0 R S odd (Lfl R0 fl [] (fun a' w' => wpList P l.toArray Q (l.drop n) a' w')) (pickN l q) a w.drew) : (Code.region id l.toArray true).wp P Q a w := by
  simp only [Region.fltB, Bool.and_eq_true, decide_eq_true_eq] at hB
  obtain ⟨⟨⟨⟨⟨⟨⟨⟨⟨hsel, hn⟩, hql⟩, hqa⟩, hs⟩, hc⟩, hno⟩, hnd⟩, hall⟩, hw⟩ := hB
  have hn' : n < l.length := by simpa using hn
  have hdl : (l.drop n).length = l.toArray.size - n := by simp
  have inv0 : HeadInv .any l.toArray n (Array.replicate l.toArray.size false) :=
    ⟨by simp, fun j oj _ hl => (by rw [getD_replicate_false] at hl; cases hl), fun t _ ht => getD_in (by simpa using ht) (getD_replicate_false _ _)⟩
  have hqs : ∀ x ∈ pickN l q, l.toArray[x.1]? = some x.2 ∧ x.1 < n := fun x hx => by
    have h1 := List.all_eq_true.1 hqa x hx
    simp only [decide_eq_true_eq] at h1
    exact ⟨by simpa using (pickN_spec hx).1, h1⟩
  have hf1 : ∀ f ∈ fl, f.idx < n ∧ f.o.after = #[] ∧ (∀ x ∈ pickN l q, f.o.apart l.toArray x.2 = true) ∧ (∀ g ∈ fl, f.idx ≠ g.idx → ∀ d, f.o.dst = some d → g.o.dst ≠ some d) := by
    intro f hf
    have h1 := List.all_eq_true.1 hall f.idx (List.mem_map_of_mem hf)
    have h2 : l.toArray[f.idx]? = some f.o := by simpa using hfo f hf
    rw [h2] at h1
    simp only [Bool.and_eq_true, decide_eq_true_eq] at h1
    obtain ⟨h3, ⟨h4, h5⟩, h6⟩ := h1
    refine ⟨h3, by simpa using h4, fun x hx => List.all_eq_true.1 h5 x hx, fun g hg hne d hd hgd => ?_⟩
    have h7 := List.all_eq_true.1 h6 g.idx (List.mem_map_of_mem hg)
    have h8 : l.toArray[g.idx]? = some g.o := by simpa using hfo g hg
    rw [h8] at h7
    simp [hne, hd, hgd] at h7
  have fi0 : FInv l.toArray (fl.map Flt.idx) fl n (Array.replicate l.toArray.size false) (Array.replicate l.toArray.size false) := by
    refine ⟨rfl, fun _ _ => rfl, fun j hj => ?_, fun f hf => ?_, fun i hi hf => ?_, hnd⟩
    · obtain ⟨f, hf, rfl⟩ := List.mem_map.1 hj
      exact getD_in (by have := (hf1 f hf).1; simp; omega) (getD_replicate_false _ _)
    · exact ⟨by simpa using hfo f hf, (hf1 f hf).1, (hf1 f hf).2.1, List.mem_map_of_mem hf, getD_in (by have := (hf1 f hf).1; simp; omega) (getD_replicate_false _ _)⟩
    · obtain ⟨f, hf', rfl⟩ := List.mem_map.1 hi
      exact absurd rfl (hf f hf')
  have H := wpAnyC_F (md := .any) (g := l.toArray.size - n) hsel hs hc hn hno hR0 hRt hQ hQ2 hOld0 hOld n (pickN l q) fl [] _ _ a w.drew (by rw [← hql, List.length_map]) hfs (fun f hf => (hf1 f hf).2.2.1) (fun f hf => (hf1 f hf).2.2.2) hqs inv0 fi0 hS (by simp) hw (h hS)
  refine wp_region_any hm ?_
  have := wpAny_of_headC (g := l.toArray.size - n) (fun listed a' w' hL => by
    have := wpAny_of_seq (md := .any) (Q' := Q) (l.drop n) n listed a' w' (fun j => by simp [List.getElem?_drop]) (by rw [hdl]; exact hL.1) hL.2
    rwa [hdl] at this) _ _ _ _ H
  rw [show n + (l.toArray.size - n) = l.toArray.size by omega] at this
  exact this

theorem wpMidF_nil {odd : List Nat} {L : Act → World → Prop} {a : Act} {w : World} (h : ∀ w1, R0 w w1 → S w1 → L a w1) : wpMidF P ops Q R0 R S odd L [] a w := h
theorem wpMidF_q {odd : List Nat} {L : Act → World → Prop} {k : Nat} {o : Oper} {r : List (Nat × Oper)} {a : Act} {w : World} (hk : odd.contains k = false) (hg : o.guard = none)
    (h : ∃ v, (∀ w, S w → (execOp a.eval o).run P w = .ok (.value v) w) ∧ wpMidF P ops Q R0 R S odd L r (a.put o.dst v) w) : wpMidF P ops Q R0 R S odd L ((k, o) :: r) a w := by
  obtain ⟨v, h1, h2⟩ := h
  rw [wpMidF, if_neg (by simpa using hk)]
  exact ⟨v, .inl ⟨by simp [Region.wanted, hg], h1⟩, h2⟩
theorem wpMidF_s {odd : List Nat} {L : Act → World → Prop} {k : Nat} {o : Oper} {r : List (Nat × Oper)} {a : Act} {w : World} (hk : odd.contains k = true) (ho : ops[k]? = some o)
    (h : ∀ w1, R0 w w1 → S w1 → ∀ K' : Act → World → Prop, Shut (∀ a' w2, R w1 w2 → S w2 → wpMidF P ops Q R0 R S odd L r a' w2 → K' a' w2) → if Region.wanted o (yielded ops a.tmps) = true then Oper.wp P o a w1 K' Q else K' (a.put o.dst undef) w1) : wpMidF P ops Q R0 R S odd L ((k, o) :: r) a w := by
  rw [wpMidF, if_pos hk]
  intro w1 h1 hS1
  exact wpOp_step ho (fun K' hK => h w1 h1 hS1 K' (fun a' w2 hr hS2 hW => hK a' w2 ⟨hr, hS2, hW⟩))

/-- A variable's place that floats: the pointer to a new block of the zero value. -/
def FAlloc (n0 : Nat) (cs : Array Value) (T : TypeId) (v : Value) (w : World) : Prop := ∃ b, v = .pointer (some ⟨b, 0, none⟩) ∧ n0 ≤ b ∧ Blk w b cs T
def FOld (u : Value) (w : World) : Prop := ∀ b off s, u = .pointer (some ⟨b, off, s⟩) → b < w.heap.size
theorem fltOk_alloc {f : Flt} {n0 : Nat} {cs : Array Value} {T : TypeId} (hi : ops[f.idx]? = some f.o) (hg : f.o.guard = none) (hV : f.V = FAlloc n0 cs T)
    (hrun : ∀ (a : Act) (w : World), (execOp a.eval f.o).run P w = .ok (.value (.pointer (some ⟨w.heap.size, 0, none⟩))) (w.alloc (.cells cs T)))
    (hS0 : ∀ w, S w → n0 ≤ w.heap.size) (hSa : ∀ w, S w → S (w.alloc (.cells cs T))) : FltOk P ops Q (fun w w' => RowKit.Below w.heap.size w w') S FOld f := by
  intro a w K hS hK
  unfold wpOp
  rw [hi]
  simp only [Region.wanted, hg, if_true]
  refine .inl ?_
  unfold Oper.wp
  rw [hrun a w]
  simp only [Oper.upon]
  refine hK _ _ ((RowKit.Below.refl _ _).alloc (Nat.le_refl _) _) (hSa w hS) (by rw [hV]; exact ⟨_, rfl, hS0 w hS, Blk.new _ _ _⟩) (fun u hu e => ?_) (fun b off s e => ?_)
  · exact Nat.lt_irrefl _ (hu _ _ _ e)
  · simp only [Value.pointer.injEq, Option.some.injEq, Addr.mk.injEq] at e
    rw [← e.1]; simp
end
end Go
namespace Go
open RowKit
variable {P : Program}
/-- One variable's place floats beside calls that change at most the blocks of D. -/
theorem wp_region_flta {Q : Exit → Act → World → Prop} {id : Nat} {a : Act} {w : World} {l : List Oper} (D : Nat → Prop) (S : World → Prop) (n : Nat) (q odd : List Nat) (i n0 : Nat) (cs : Array Value) (T : TypeId) {o : Oper} (hm : P.follows .mixedOrders = true)
    (hB : Region.fltB .any l.toArray n (pickN l q) odd [i] = true) (ho : l[i]? = some o) (hg : o.guard = none)
    (hrun : ∀ (a : Act) (w : World), (execOp a.eval o).run P w = .ok (.value (.pointer (some ⟨w.heap.size, 0, none⟩))) (w.alloc (.cells cs T)))
    (hQ : ∀ d c a v w, Q (.panic c) (Act.put a d v) w → Q (.panic c) a w) (hQ2 : ∀ d c a v w, Q (.panic c) a w → Q (.panic c) (Act.put a d v) w)
    (hD : ∀ k, D k → k < n0) (hS0 : ∀ w, S w → n0 ≤ w.heap.size) (hSa : ∀ w, S w → S (w.alloc (.cells cs T))) (hS : S w.drew)
    (h : S w.drew → wpMidF P l.toArray Q (fun w w' => Below w.heap.size w w') (Chg D) S odd (fun a' w' => ∀ pb w1, Below w'.heap.size w' w1 → n0 ≤ pb → Blk w1 pb cs T → wpList P l.toArray Q (l.drop n) (a'.put o.dst (.pointer (some ⟨pb, 0, none⟩))) w1) (pickN l q) a w.drew) :
    (Code.region id l.toArray true).wp P Q a w := by
  refine wp_region_flt (fun w w' => Below w.heap.size w w') (Chg D) FOld S n q odd [⟨i, o, FAlloc n0 cs T⟩] hm hB (fun f hf => by simp only [List.mem_singleton] at hf; subst hf; exact ho) (fun w => Below.refl _ _) (fun a b c h k => Below.trans h (Below.mono k h.size)) hQ hQ2
    (fun u w w' hb hu b off s e => Nat.lt_of_lt_of_le (hu b off s e) hb.size) (fun u w w' hb hu b off s e => Nat.lt_of_lt_of_le (hu b off s e) hb.size) (fun f hf => ?_) hS (fun hS' => ?_)
  · simp only [List.mem_singleton] at hf
    subst hf
    refine ⟨fltOk_alloc (by simpa using ho) hg rfl hrun hS0 hSa, ?_, ?_⟩
    · rintro v w w' hb ⟨b, rfl, h1, h2⟩
      exact ⟨b, rfl, h1, h2.below hb h2.lt⟩
    · rintro v w w' hb ⟨b, rfl, h1, h2⟩
      exact ⟨b, rfl, h1, h2.chg hb (fun hd => by have := hD b hd; omega)⟩
  · refine wpMidF.mono (fun a' w' hL => ?_) (h hS')
    rintro v w1 hb ⟨b, rfl, h1, h2⟩ _
    exact hL b w1 hb h1 h2
end Go
