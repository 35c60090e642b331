/- Gossip, the document's side: its tracker (Update, Count, Done), also where it lies at a place in a block. -/
import Derived.Test.YtjmbafcpbagpdaaGreatPt
import Derived.Test.YtjmbafcpbagpdaaGreatPv
/- Progress: the document's counts: plain Lean. -/
namespace Go.Proofs.YtjmbafcpbagpdaaGreat
open Go.RowKit Go.Maps
set_option linter.unusedVariables false
set_option linter.unusedSimpArgs false

instance (x y : TStamp) : Decidable (ltS x y) := by unfold ltS; infer_instance
/-- Counts with one changed. -/
def insL (c : TCount) : List TCount → List TCount
  | [] => [c]
  | x :: r => if ltS c.fS x.fS then c :: x :: r else if x.fS = c.fS then ⟨c.fS, c.fN + x.fN⟩ :: r else x :: insL c r
def cntL (L : List TCount) (s : TStamp) : Int := ((L.find? fun c => decide (c.fS = s)).map (·.fN)).getD 0
def SrtL (L : List TCount) : Prop := (L.map (·.fS)).Pairwise ltS
theorem insL_keys (c : TCount) (s : TStamp) : ∀ L : List TCount, s ∈ (insL c L).map (·.fS) ↔ s = c.fS ∨ s ∈ L.map (·.fS)
  | [] => by simp [insL]
  | x :: r => by
    unfold insL
    by_cases h1 : ltS c.fS x.fS
    · rw [if_pos h1]; simp
    · rw [if_neg h1]
      by_cases h2 : x.fS = c.fS
      · rw [if_pos h2]; simp [h2]
      · rw [if_neg h2, List.map_cons, List.mem_cons, insL_keys c s r, List.map_cons, List.mem_cons]
        constructor
        · rintro (h | h | h)
          · exact .inr (.inl h)
          · exact .inl h
          · exact .inr (.inr h)
        · rintro (h | h | h)
          · exact .inr (.inl h)
          · exact .inl h
          · exact .inr (.inr h)
theorem insL_len (c : TCount) : ∀ L : List TCount, (insL c L).length ≤ L.length + 1
  | [] => by simp [insL]
  | x :: r => by
    unfold insL
    split
    · simp
    · split
      · simp
      · have := insL_len c r
        simp only [List.length_cons]
        omega
theorem insL_srt (c : TCount) : ∀ L : List TCount, SrtL L → SrtL (insL c L)
  | [], _ => by simp [insL, SrtL]
  | x :: r, h => by
    have h0 := h
    unfold SrtL at h
    rw [List.map_cons, List.pairwise_cons] at h
    obtain ⟨h1, h2⟩ := h
    unfold insL
    by_cases e1 : ltS c.fS x.fS
    · rw [if_pos e1]
      unfold SrtL
      rw [List.map_cons, List.pairwise_cons]
      refine ⟨fun s hs => ?_, h0⟩
      rw [List.map_cons] at hs
      rcases List.mem_cons.1 hs with rfl | hs
      · exact e1
      · exact ltS_trans e1 (h1 s hs)
    · rw [if_neg e1]
      by_cases e2 : x.fS = c.fS
      · rw [if_pos e2]
        unfold SrtL
        rw [List.map_cons, List.pairwise_cons]
        exact ⟨fun s hs => by rw [← e2]; exact h1 s hs, h2⟩
      · rw [if_neg e2]
        unfold SrtL
        rw [List.map_cons, List.pairwise_cons]
        refine ⟨fun s hs => ?_, insL_srt c r h2⟩
        rcases (insL_keys c s r).1 hs with rfl | hs
        · exact (ltS_total e2).resolve_right e1
        · exact h1 s hs
theorem cntL_out {L : List TCount} {s : TStamp} (h : s ∉ L.map (·.fS)) : cntL L s = 0 := by
  unfold cntL
  rw [List.find?_eq_none.2 (fun c hc => by simp; exact fun e => h (List.mem_map.2 ⟨c, hc, e⟩))]
  rfl
theorem cntL_cons (x : TCount) (r : List TCount) (s : TStamp) : cntL (x :: r) s = if x.fS = s then x.fN else cntL r s := by
  unfold cntL
  by_cases h : x.fS = s
  · rw [List.find?_cons_of_pos (by simpa using h), if_pos h]; rfl
  · rw [List.find?_cons_of_neg (by simpa using h), if_neg h]
theorem cntL_mem {L : List TCount} (h : SrtL L) : ∀ c ∈ L, cntL L c.fS = c.fN := by
  induction L with
  | nil => intro c hc; cases hc
  | cons x r ih =>
    unfold SrtL at h
    rw [List.map_cons, List.pairwise_cons] at h
    intro c hc
    rw [cntL_cons]
    rcases List.mem_cons.1 hc with rfl | hc
    · rw [if_pos rfl]
    · rw [if_neg, ih h.2 c hc]
      intro e
      have := h.1 c.fS (List.mem_map.2 ⟨c, hc, rfl⟩)
      rw [e] at this
      exact ltS_irrefl _ this
theorem insL_cnt (c : TCount) (s : TStamp) : ∀ L : List TCount, SrtL L → cntL (insL c L) s = (if c.fS = s then c.fN else 0) + cntL L s
  | [], _ => by
    rw [insL, cntL_cons]
    split <;> simp [cntL]
  | x :: r, h => by
    have h0 := h
    unfold SrtL at h
    rw [List.map_cons, List.pairwise_cons] at h
    obtain ⟨h1, h2⟩ := h
    unfold insL
    by_cases e1 : ltS c.fS x.fS
    · rw [if_pos e1, cntL_cons]
      by_cases e : c.fS = s
      · rw [if_pos e, if_pos e]
        subst e
        rw [cntL_out (L := x :: r), Int.add_zero]
        intro hm
        rw [List.map_cons] at hm
        rcases List.mem_cons.1 hm with e | hm
        · rw [← e] at e1; exact ltS_irrefl _ e1
        · exact ltS_irrefl _ (ltS_trans e1 (h1 _ hm))
      · rw [if_neg e, if_neg e, Int.zero_add]
    · rw [if_neg e1]
      by_cases e2 : x.fS = c.fS
      · rw [if_pos e2, cntL_cons, cntL_cons, e2]
        split <;> simp
      · rw [if_neg e2, cntL_cons, cntL_cons, insL_cnt c s r h2]
        by_cases e : x.fS = s
        · rw [if_pos e, if_pos e, if_neg (fun e' => e2 (e.trans e'.symm)), Int.zero_add]
        · rw [if_neg e, if_neg e]
/-- Walking along the counts: what is behind the place is as it will be. -/
theorem insL_pass (c : TCount) {x : TCount} {r : List TCount} (h1 : ¬ ltS c.fS x.fS) (h2 : x.fS ≠ c.fS) : insL c (x :: r) = x :: insL c r := by
  rw [insL, if_neg h1, if_neg h2]
theorem insL_here (c : TCount) {x : TCount} {r : List TCount} (h1 : ltS c.fS x.fS) : insL c (x :: r) = c :: x :: r := by
  rw [insL, if_pos h1]
theorem insL_same (c : TCount) {x : TCount} {r : List TCount} (h2 : x.fS = c.fS) : insL c (x :: r) = ⟨c.fS, c.fN + x.fN⟩ :: r := by
  rw [insL, if_neg (fun h => by rw [h2] at h; exact ltS_irrefl _ h), if_pos h2]

def nextL (L l : List TCount) : List TCount := l.foldl (fun a c => insL c a) L
theorem nextL_snoc (L l : List TCount) (c : TCount) : nextL L (l ++ [c]) = insL c (nextL L l) := by unfold nextL; rw [List.foldl_append]; rfl
theorem nextL_cons (L l : List TCount) (c : TCount) : nextL L (c :: l) = nextL (insL c L) l := rfl
theorem nextL_srt : ∀ (l L : List TCount), SrtL L → SrtL (nextL L l)
  | [], _, h => h
  | c :: l, L, h => nextL_srt l (insL c L) (insL_srt c L h)
theorem nextL_len : ∀ (l L : List TCount), (nextL L l).length ≤ L.length + l.length
  | [], L => Nat.le_refl _
  | c :: l, L => by
    have h1 := nextL_len l (insL c L)
    have h2 := insL_len c L
    rw [nextL_cons, List.length_cons]
    omega
theorem nextL_cnt (s : TStamp) : ∀ (l L : List TCount), SrtL L → cntL (nextL L l) s = cntL L s + totC l s
  | [], L, _ => by simp [nextL, totC]
  | c :: l, L, h => by
    rw [nextL_cons, nextL_cnt s l _ (insL_srt c L h), insL_cnt c s L h, totC_cons]
    omega
theorem nextL_keys (s : TStamp) : ∀ (l L : List TCount), s ∈ (nextL L l).map (·.fS) ↔ s ∈ L.map (·.fS) ∨ ∃ c ∈ l, c.fS = s
  | [], L => by simp [nextL]
  | c :: l, L => by
    rw [nextL_cons, nextL_keys s l, insL_keys]
    constructor
    · rintro ((h | h) | ⟨d, h, e⟩)
      · exact .inr ⟨c, by simp, h.symm⟩
      · exact .inl h
      · exact .inr ⟨d, by simp [h], e⟩
    · rintro (h | ⟨d, h, e⟩)
      · exact .inl (.inr h)
      · rcases List.mem_cons.1 h with rfl | h
        · exact .inl (.inl e.symm)
        · exact .inr ⟨d, h, e⟩
def leftL (M : List TCount) : List TCount := M.filter fun c => decide (c.fN ≠ 0)
def outC (c : TCount) : Bool := decide (4611686018427387904 < c.fN) || decide (c.fN < -4611686018427387904)
/-- What the document's Update answers, and what it keeps. -/
def updL (ops : List TOp) (L l : List TCount) : Int × List TCount :=
  if l.all (okC ops) = false then (1, L) else if (nextL L l).any outC then (14, L) else (0, leftL (nextL L l))
theorem leftL_srt {M : List TCount} (h : SrtL M) : SrtL (leftL M) := by
  unfold SrtL leftL at *
  exact h.sublist (List.filter_sublist.map _)
theorem IsAll.srt {cs : List (TStamp × Int)} {L : List TCount} (h : IsAll cs L) : SrtL L := h.sort
theorem IsAll.cnt {cs : List (TStamp × Int)} {L : List TCount} (h : IsAll cs L) (s : TStamp) : cntL L s = cntC cs s := by
  by_cases hm : s ∈ L.map (·.fS)
  · obtain ⟨c, hc, rfl⟩ := List.mem_map.1 hm
    rw [cntL_mem h.srt c hc, h.val c hc]
  · rw [cntL_out hm, cntC_out]
    intro p hp e
    exact hm (h.perm.mem_iff.2 (List.mem_map.2 ⟨p, hp, e⟩))
theorem nxL_has (s : TStamp) (l : List TCount) (h : ∃ c ∈ l, c.fS = s) : ∃ p ∈ nxL l, p.1 = s := by
  suffices H : ∀ (l : List TCount) (a : List (TStamp × Int)), ((∃ p ∈ a, p.1 = s) ∨ ∃ c ∈ l, c.fS = s) → ∃ p ∈ l.foldl nxC a, p.1 = s from H l [] (.inr h)
  intro l
  induction l with
  | nil =>
    rintro a (h | ⟨c, hc, _⟩)
    · exact h
    · cases hc
  | cons c l ih =>
    intro a h
    rw [List.foldl_cons]
    refine ih _ ?_
    by_cases e : c.fS = s
    · exact .inl ⟨_, List.mem_cons_self, e⟩
    · rcases h with ⟨p, hp, rfl⟩ | ⟨d, hd, rfl⟩
      · refine .inl ⟨p, ?_, rfl⟩
        unfold nxC setC delC
        exact List.mem_cons_of_mem _ (List.mem_filter.2 ⟨hp, by simpa using fun e' => e e'.symm⟩)
      · rcases List.mem_cons.1 hd with rfl | hd
        · exact absurd rfl e
        · exact .inr ⟨d, hd, rfl⟩
theorem tot_none {s : TStamp} : ∀ {l : List TCount}, (∀ d ∈ l, d.fS ≠ s) → totC l s = 0
  | [], _ => rfl
  | d :: l, h => by rw [totC_cons, if_neg (h d (by simp)), tot_none (fun x hx => h x (by simp [hx]))]; rfl
theorem upd_alike {ops : List TOp} {cs : List (TStamp × Int)} {L l : List TCount} (hA : IsAll cs L) (hz : ∀ p ∈ cs, p.2 ≠ 0 ∧ -4611686018427387904 ≤ p.2 ∧ p.2 ≤ 4611686018427387904) (hl : l.length ≤ 1073741824) :
    updE ops cs l = (updL ops L l).1 := by
  unfold updE updL
  by_cases h1 : l.all (okC ops) = false
  · rw [if_pos h1, if_pos h1]
  rw [if_neg h1, if_neg h1]
  have hok : l.all (okC ops) = true := by simpa using h1
  have hr := fun s => cntC_range hz s
  have ht := fun s => tot_range (ops := ops) s hok
  have hs := nextL_srt l L hA.srt
  have hw : ∀ s, wrap64 (cntC cs s + wrap64 (totC l s)) = cntC cs s + totC l s := fun s => by
    rw [wrap_add']
    exact IntWalk.wrap64_in _ (by have := hr s; have := ht s; omega)
  by_cases h2 : (nextL L l).any outC = true
  · rw [if_pos h2, if_neg]
    intro hp
    obtain ⟨c, hc, ho⟩ := List.any_eq_true.1 h2
    have e1 := cntL_mem hs c hc
    rw [nextL_cnt _ _ _ hA.srt, hA.cnt] at e1
    unfold outC at ho
    simp only [Bool.or_eq_true, decide_eq_true_eq] at ho
    rcases (nextL_keys c.fS l L).1 (List.mem_map.2 ⟨c, hc, rfl⟩) with hk | hk
    · by_cases hk2 : ∃ d ∈ l, d.fS = c.fS
      · obtain ⟨p, hp1, hp2⟩ := nxL_has _ l hk2
        have := hp p hp1
        unfold passC at this
        rw [nxL_val hp1, hw, hp2] at this
        omega
      · have h0 := tot_none (l := l) (s := c.fS) (fun d hd e => hk2 ⟨d, hd, e⟩)
        have := hr c.fS
        omega
    · obtain ⟨p, hp1, hp2⟩ := nxL_has _ l hk
      have := hp p hp1
      unfold passC at this
      rw [nxL_val hp1, hw, hp2] at this
      omega
  · rw [if_neg h2, if_pos]
    intro p hp
    obtain ⟨d, hd, e⟩ : ∃ c ∈ l, c.fS = p.1 := by
      have h3 := nxL_keys l l.length (Nat.le_refl _)
      rw [List.take_of_length_le (Nat.le_refl _)] at h3
      exact h3 p hp
    obtain ⟨c, hc, e2⟩ := List.mem_map.1 ((nextL_keys p.1 l L).2 (.inr ⟨d, hd, e⟩))
    have e1 := cntL_mem hs c hc
    rw [nextL_cnt _ _ _ hA.srt, hA.cnt, e2] at e1
    have ho : outC c = false := by
      cases h : outC c with
      | false => rfl
      | true => exact absurd (List.any_eq_true.2 ⟨c, hc, h⟩) h2
    unfold outC at ho
    simp only [Bool.or_eq_false_iff, decide_eq_false_iff_not] at ho
    unfold passC
    rw [nxL_val hp, hw, e1]
    omega
end Go.Proofs.YtjmbafcpbagpdaaGreat

/- Progress: the document's before, add. -/
namespace Go.Proofs.YtjmbafcpbagpdaaGreat
open Go.RowKit Go.Shelf Go.Maps
attribute [local go_sem] Oper.semAt_some
set_option linter.unusedVariables false
set_option linter.unusedSimpArgs false

set_option maxRecDepth 100000 in
set_option maxHeartbeats 2000000 in
theorem before_any (x y : TStamp) (w : World) :
    Calls Tryz.prog 70 #[.agg #[.int .i64 x.fLoc, .int .i64 x.fT.fEpoch, .int .i64 x.fT.fRound], .agg #[.int .i64 y.fLoc, .int .i64 y.fT.fEpoch, .int .i64 y.fT.fRound]] w fun e w' => e = .returned (.bool (decide (ltS x y))) ∧ Below w.heap.size w w' := by
  obtain ⟨la, ⟨ea, ra⟩⟩ := x
  obtain ⟨lb, ⟨eb, rb⟩⟩ := y
  dsimp only
  by_cases h1 : la = lb
  · have d1 : (la != lb) = false := by simpa using h1
    by_cases h2 : ea = eb
    · have d2 : (ea != eb) = false := by simpa using h2
      rw [show decide (ltS ⟨la, ⟨ea, ra⟩⟩ ⟨lb, ⟨eb, rb⟩⟩) = decide (ra < rb) by simp [ltS, h1, h2]]
      clear h1 h2
      go_enter Tryz.func70, Tryz.ntmps70
      go_wp2_with fail
      go_ret
      exact ⟨rfl, (by repeat (first | exact Below.refl _ _ | assumption | refine below_drewN ?_ _ | refine Below.drew ?_ | (refine Below.setCell ?_ (by first | omega | (simp; omega) | simp) _) | (refine Below.alloc ?_ (by first | omega | (simp; omega) | simp) _) | (refine Below.trans ?_ (Below.mono (by assumption) (by first | omega | (simp; omega) | simp)))))⟩
    · have d2 : (ea != eb) = true := by simpa using h2
      rw [show decide (ltS ⟨la, ⟨ea, ra⟩⟩ ⟨lb, ⟨eb, rb⟩⟩) = decide (ea < eb) by simp [ltS, h1, h2]]
      clear h1 h2
      go_enter Tryz.func70, Tryz.ntmps70
      go_wp2_with fail
      go_ret
      exact ⟨rfl, (by repeat (first | exact Below.refl _ _ | assumption | refine below_drewN ?_ _ | refine Below.drew ?_ | (refine Below.setCell ?_ (by first | omega | (simp; omega) | simp) _) | (refine Below.alloc ?_ (by first | omega | (simp; omega) | simp) _) | (refine Below.trans ?_ (Below.mono (by assumption) (by first | omega | (simp; omega) | simp)))))⟩
  · have d1 : (la != lb) = true := by simpa using h1
    rw [show decide (ltS ⟨la, ⟨ea, ra⟩⟩ ⟨lb, ⟨eb, rb⟩⟩) = decide (la < lb) by simp [ltS, h1]]
    clear h1
    go_enter Tryz.func70, Tryz.ntmps70
    go_wp2_with fail
    go_ret
    exact ⟨rfl, (by repeat (first | exact Below.refl _ _ | assumption | refine below_drewN ?_ _ | refine Below.drew ?_ | (refine Below.setCell ?_ (by first | omega | (simp; omega) | simp) _) | (refine Below.alloc ?_ (by first | omega | (simp; omega) | simp) _) | (refine Below.trans ?_ (Below.mono (by assumption) (by first | omega | (simp; omega) | simp)))))⟩

/-- Where the adding stands. -/
def AddI (c : TCount) (L : List TCount) (i : Nat) (O : List TCount) (d : Bool) (nv : Int) : Prop :=
  O.length ≤ i + 1 ∧ ((d = false ∧ nv = c.fN ∧ O ++ insL c (L.drop i) = insL c L) ∨ (d = true ∧ O ++ L.drop i = insL c L ∧ ∀ x ∈ L.drop i, x.fS ≠ c.fS))
theorem AddI.start (c : TCount) (L : List TCount) : AddI c L 0 [] false c.fN := ⟨by simp, .inl ⟨rfl, rfl, by simp⟩⟩
theorem drop_gt {L : List TCount} (h : SrtL L) {i : Nat} (hi : i < L.length) : ∀ x ∈ L.drop (i + 1), ltS L[i].fS x.fS := fun x hx => by
  have h1 : (L.drop i).Pairwise (fun a b => ltS a.fS b.fS) := by
    unfold SrtL at h
    rw [List.pairwise_map] at h
    exact h.sublist (List.drop_sublist i L)
  rw [List.drop_eq_getElem_cons hi, List.pairwise_cons] at h1
  exact h1.1 x hx
theorem AddI.here {c : TCount} {L O : List TCount} {i : Nat} {nv : Int} (h : AddI c L i O false nv) (hs : SrtL L) (hi : i < L.length) (hl : ltS c.fS L[i].fS) : nv = c.fN ∧ AddI c L (i + 1) (O ++ [c] ++ [L[i]]) true nv := by
  obtain ⟨h1, ⟨-, h2, h3⟩ | ⟨e, -, -⟩⟩ := h
  · refine ⟨h2, ?_⟩
    rw [List.drop_eq_getElem_cons hi, insL_here c hl] at h3
    have hO : O.length ≤ i := by
      have h4 := congrArg List.length h3
      have h5 := insL_len c L
      simp only [List.length_append, List.length_cons, List.length_drop] at h4
      omega
    exact ⟨by simp; omega, .inr ⟨rfl, by rw [← h3]; simp, fun x hx e => by
      have h6 := ltS_trans hl (drop_gt hs hi x hx)
      rw [e] at h6
      exact ltS_irrefl _ h6⟩⟩
  · cases e
theorem AddI.same {c : TCount} {L O : List TCount} {i : Nat} {nv : Int} (h : AddI c L i O false nv) (hs : SrtL L) (hi : i < L.length) (hl : L[i].fS = c.fS) : nv = c.fN ∧ AddI c L (i + 1) (O ++ [⟨c.fS, c.fN + L[i].fN⟩]) true (c.fN + L[i].fN) := by
  obtain ⟨h1, ⟨-, h2, h3⟩ | ⟨e, -, -⟩⟩ := h
  · refine ⟨h2, ?_⟩
    rw [List.drop_eq_getElem_cons hi, insL_same c hl] at h3
    exact ⟨by simp; omega, .inr ⟨rfl, by rw [← h3]; simp, fun x hx e => by
      have h6 := drop_gt hs hi x hx
      rw [e, hl] at h6
      exact ltS_irrefl _ h6⟩⟩
  · cases e
theorem AddI.pass {c : TCount} {L O : List TCount} {i : Nat} {nv : Int} (h : AddI c L i O false nv) (hi : i < L.length) (h1' : ¬ ltS c.fS L[i].fS) (hl : L[i].fS ≠ c.fS) : AddI c L (i + 1) (O ++ [L[i]]) false nv := by
  obtain ⟨h1, ⟨-, h2, h3⟩ | ⟨e, -, -⟩⟩ := h
  · rw [List.drop_eq_getElem_cons hi, insL_pass c h1' hl] at h3
    exact ⟨by simp; omega, .inl ⟨rfl, h2, by rw [← h3]; simp⟩⟩
  · cases e
theorem AddI.rest {c : TCount} {L O : List TCount} {i : Nat} {nv : Int} (h : AddI c L i O true nv) (hi : i < L.length) : L[i].fS ≠ c.fS ∧ AddI c L (i + 1) (O ++ [L[i]]) true nv := by
  obtain ⟨h1, ⟨e, -, -⟩ | ⟨-, h2, h3⟩⟩ := h
  · cases e
  · rw [List.drop_eq_getElem_cons hi] at h2 h3
    exact ⟨h3 _ List.mem_cons_self, by simp; omega, .inr ⟨rfl, by rw [← h2]; simp, fun x hx => h3 x (List.mem_cons_of_mem _ hx)⟩⟩
theorem AddI.last {c : TCount} {L O : List TCount} {d : Bool} {nv : Int} (h : AddI c L L.length O d nv) : (d = true ∧ O = insL c L) ∨ (d = false ∧ nv = c.fN ∧ O ++ [c] = insL c L) := by
  obtain ⟨h1, ⟨rfl, h2, h3⟩ | ⟨rfl, h2, -⟩⟩ := h
  · rw [List.drop_length] at h3
    exact .inr ⟨rfl, h2, h3⟩
  · rw [List.drop_length, List.append_nil] at h2
    exact .inl ⟨rfl, h2⟩

set_option maxRecDepth 100000 in
set_option maxHeartbeats 4000000 in
theorem add_any (c : TCount) (L : List TCount) (aL : Option Addr) (cL : Nat) (w : World) (hL : SlA w.heap.size 4 (RCount w.heap.size) w aL cL L) (hs : SrtL L) (hz : (L.length + 3) * 32 ≤ 140737488355328)
    (hN : ∀ x ∈ L, x.fS = c.fS → -9223372036854775808 ≤ c.fN + x.fN ∧ c.fN + x.fN ≤ 9223372036854775807) :
    Calls Tryz.prog 52 #[.slice aL L.length cL, .agg #[.int .i64 c.fS.fLoc, .int .i64 c.fS.fT.fEpoch, .int .i64 c.fS.fT.fRound, .int .i64 c.fN]] w fun e w' => ∃ v, e = .returned v ∧ OwnL encK w' w.heap.size 67 4 v (insL c L) ∧ Below w.heap.size w w' := by
  obtain ⟨jK, hiK, hK0, hK1, hK2⟩ := info_parts infoK
  have hlen := hL.len
  obtain ⟨n, hn⟩ : ∃ n, n = L.length := ⟨_, rfl⟩
  rw [← hn] at hlen hz ⊢
  replace hn := Lib.hid hn
  replace hN := Lib.hid hN
  replace hs := Lib.hid hs
  go_enter Tryz.func52, Tryz.ntmps52
  go_upto_region 1 with fail
  refine Code.wp_world ?_
  intro w1 hw1
  have hb1 : Below w.heap.size w w1 := by rw [hw1]; exact (Below.refl _ _).alloc (Nat.le_refl _) _
  have hC1 : Blk w1 w.heap.size #[.int .i64 c.fS.fLoc, .int .i64 c.fS.fT.fEpoch, .int .i64 c.fS.fT.fRound, .int .i64 c.fN] 67 := by rw [hw1]; exact Blk.new _ _ _
  obtain ⟨zb, hzb⟩ : ∃ zb, zb = w.heap.size := ⟨_, rfl⟩
  rw [← hzb] at hC1 ⊢
  have hz1 : zb < w1.heap.size := hC1.lt
  have hw01 : w.heap.size ≤ w1.heap.size := hb1.size
  replace hzb := Lib.hid hzb
  clear hw1
  go_wp2_with fail
  go_loopw [5, 6, 7] (fun x5 x6 x7 wr => ∃ (i : Nat) (O : List TCount) (d : Bool) (nv : Int), i ≤ n ∧ x7 = .int .i64 i ∧ x6 = .bool d ∧ OwnL encK wr w1.heap.size 67 4 x5 O ∧ Blk wr zb #[.int .i64 c.fS.fLoc, .int .i64 c.fS.fT.fEpoch, .int .i64 c.fS.fT.fRound, .int .i64 nv] 67 ∧ Below w.heap.size w wr ∧ w1.heap.size ≤ wr.heap.size ∧ Hid (AddI c L i O d nv)) (fun _ _ x7 _ => n - (intOf x7).toNat)
  case atStart => exact ⟨0, [], false, c.fN, Nat.zero_le _, rfl, rfl, OwnL.nil _ _ _ _ _, hC1, hb1, Nat.le_refl _, Lib.hid (AddI.start c L)⟩
  case round =>
    clear hC1 hb1
    obtain ⟨i, O, d, nv, hi, rfl, rfl, hO, hC, hbr, hsz, hI⟩ := hrel
    obtain ⟨av, cv, hv5, -, -, -⟩ := hO.slice
    subst hv5
    obtain ⟨k, hk⟩ : ∃ k, k = O.length := ⟨_, rfl⟩
    have hki : k ≤ n + 1 := by have := hI.out.1; omega
    rw [← hk] at hO ⊢
    replace hk := Lib.hid hk
    by_cases hin : i < n
    · have d1 : decide ((i : Int) < (n : Int)) = true := by simp; omega
      have hiL : i < L.length := by rw [← hn.out]; exact hin
      have hsr := hL.imp hbr (Nat.le_refl _) (fun _ _ _ h => h.imp hbr (Nat.le_refl _))
      obtain ⟨b2, off2, rfl, hb2l, _⟩ := hsr.addr (by omega)
      obtain ⟨x, hx⟩ : ∃ x, L[i] = x := ⟨_, rfl⟩
      obtain ⟨e0, e1, e2, e3, _⟩ := RCount.at hsr hiL hx
      have f0 := Wd.cell e0 (World.lt_of_cell e0)
      have f1 := Wd.cell e1 (World.lt_of_cell e1)
      have f2 := Wd.cell e2 (World.lt_of_cell e2)
      have c0 := hC.cellAt (i := 0) (v := .int .i64 c.fS.fLoc) rfl
      have c1 := hC.cellAt (i := 1) (v := .int .i64 c.fS.fT.fEpoch) rfl
      have c2 := hC.cellAt (i := 2) (v := .int .i64 c.fS.fT.fRound) rfl
      have g0 := Wd.cell c0 (World.lt_of_cell c0)
      have g1 := Wd.cell c1 (World.lt_of_cell c1)
      have g2 := Wd.cell c2 (World.lt_of_cell c2)
      have hbf := fun W => before_any c.fS x.fS W
      have hsm := fun W => rsame_any x.fS c.fS W
      clear hsr e0 e1 e2 e3 c0 c1 c2
      cases d with
      | true =>
        obtain ⟨hne, hI2⟩ := hI.out.rest hiL
        rw [hx] at hne hI2
        replace hI2 := Lib.hid hI2
        rw [decide_eq_false hne] at hsm
        replace hsm := Lib.hid hsm
        replace hbf := Lib.hid hbf
        clear hI hne
        go_upto_region 6 with fail
        refine wp_region_below (by kernel_rfl) (by kernel_rfl) ?_
        repeat (go_big_quiet_step (fail))
        refine wpQuiet_nil ?_
        rintro _ ⟨u, rfl⟩
        clear f0 f1 f2 g0 g1 g2 hbf
        have hO2 := OwnL.below hO u.h (Nat.le_refl _)
        have hC2 := hC.below u.h hC.lt
        have hb2 := hbr.trans (u.h.mono hbr.size)
        have hs2 := Nat.le_trans hsz u.h.size
        obtain ⟨w2, hw2⟩ : ∃ w2, w2 = u.v := ⟨_, rfl⟩
        rw [← hw2] at hO2 hC2 hb2 hs2 ⊢
        clear hw2 hO hC hbr hsz u
        obtain ⟨e0, e1, e2, e3, _⟩ := RCount.at (hL.imp hb2 (Nat.le_refl _) (fun _ _ _ h => h.imp hb2 (Nat.le_refl _))) hiL hx
        have c0 := hC2.cellAt (i := 0) (v := .int .i64 c.fS.fLoc) rfl
        have c1 := hC2.cellAt (i := 1) (v := .int .i64 c.fS.fT.fEpoch) rfl
        have c2 := hC2.cellAt (i := 2) (v := .int .i64 c.fS.fT.fRound) rfl
        have c3 := hC2.cellAt (i := 3) (v := .int .i64 nv) rfl
        have f0 := Wd.cell e0 (World.lt_of_cell e0)
        have f1 := Wd.cell e1 (World.lt_of_cell e1)
        have f2 := Wd.cell e2 (World.lt_of_cell e2)
        have g0 := Wd.cell c0 (World.lt_of_cell c0)
        have g1 := Wd.cell c1 (World.lt_of_cell c1)
        have g2 := Wd.cell c2 (World.lt_of_cell c2)
        clear e0 e1 e2 e3 c0 c1 c2 c3
        go_upto_region 9 with fail
        refine wp_region_below (by kernel_rfl) (by kernel_rfl) ?_
        repeat (go_big_quiet_step ((go_at_call 22; exact Calls.quiet_below (hsm.out _))))
        refine wpQuiet_nil ?_
        rintro _ ⟨u, rfl⟩
        clear f0 f1 f2 g0 g1 g2 hsm
        have hO4 := OwnL.below hO2 u.h (Nat.le_refl _)
        have hC4 := hC2.below u.h hC2.lt
        have hb4 := hb2.trans (u.h.mono hb2.size)
        have hs4 := Nat.le_trans hs2 u.h.size
        obtain ⟨w4, hw4⟩ : ∃ w4, w4 = u.v := ⟨_, rfl⟩
        rw [← hw4] at hO4 hC4 hb4 hs4 ⊢
        clear hw4 hO2 hC2 hb2 hs2 u
        obtain ⟨e0, e1, e2, e3, _⟩ := RCount.at (hL.imp hb4 (Nat.le_refl _) (fun _ _ _ h => h.imp hb4 (Nat.le_refl _))) hiL hx
        have c0 := hC4.cellAt (i := 0) (v := .int .i64 c.fS.fLoc) rfl
        have c1 := hC4.cellAt (i := 1) (v := .int .i64 c.fS.fT.fEpoch) rfl
        have c2 := hC4.cellAt (i := 2) (v := .int .i64 c.fS.fT.fRound) rfl
        have c3 := hC4.cellAt (i := 3) (v := .int .i64 nv) rfl
        clear c0 c1 c2 c3
        go_wp2_with (at_builtin; refine Shut.out ?k101)
        unfold Shut
        change wpList _ _ _ _ _ (w4.alloc (.cells (encK x).toArray 67))
        refine wpList_app1 rfl _ _ 25 rfl Tryz.underlying25 hiK hK0 hK1 hK2 rfl (by decide) (enc := encK) x rfl hO4 rfl (encK_len _) (encK_one _) (by rw [← hk.out]; omega) (by rw [← hk.out]; unfold maxLen; omega) hs4 ?_
        intro a5 cp5 w5 hown5 hbb5 hgr5
        rw [← hk.out] at hown5 ⊢
        clear hgr5
        have hC5 := hC4.below hbb5 hz1
        have hb5 := hb4.trans (hbb5.mono hw01)
        have hs5 := Nat.le_trans hs4 hbb5.size
        clear hbb5 hO4 hC4 hb4 hs4 e0 e1 e2 e3
        go_wp2_with fail
        go_roundw
        case rel => exact ⟨i + 1, O ++ [x], true, nv, by omega, by go_num, rfl, hown5, hC5, hb5, hs5, hI2⟩
        case measure => simp [intOf]; omega
      | false =>
        by_cases hlt : ltS c.fS x.fS
        · obtain ⟨hnv, hI2⟩ := hI.out.here hs.out hiL (by rw [hx]; exact hlt)
          subst hnv
          rw [hx] at hI2
          have hne : x.fS ≠ c.fS := fun e => by rw [e] at hlt; exact ltS_irrefl _ hlt
          replace hI2 := Lib.hid hI2
          rw [decide_eq_false hne] at hsm
          rw [decide_eq_true hlt] at hbf
          replace hsm := Lib.hid hsm
          replace hbf := Lib.hid hbf
          clear hI hne hlt
          go_upto_region 6 with fail
          refine wp_region_below (by kernel_rfl) (by kernel_rfl) ?_
          repeat (go_big_quiet_step ((go_at_call 70; exact Calls.quiet_below (hbf.out _))))
          refine wpQuiet_nil ?_
          rintro _ ⟨u, rfl⟩
          clear f0 f1 f2 g0 g1 g2 hbf
          have hO2 := OwnL.below hO u.h (Nat.le_refl _)
          have hC2 := hC.below u.h hC.lt
          have hb2 := hbr.trans (u.h.mono hbr.size)
          have hs2 := Nat.le_trans hsz u.h.size
          obtain ⟨w2, hw2⟩ : ∃ w2, w2 = u.v := ⟨_, rfl⟩
          rw [← hw2] at hO2 hC2 hb2 hs2 ⊢
          clear hw2 hO hC hbr hsz u
          obtain ⟨e0, e1, e2, e3, _⟩ := RCount.at (hL.imp hb2 (Nat.le_refl _) (fun _ _ _ h => h.imp hb2 (Nat.le_refl _))) hiL hx
          have c0 := hC2.cellAt (i := 0) (v := .int .i64 c.fS.fLoc) rfl
          have c1 := hC2.cellAt (i := 1) (v := .int .i64 c.fS.fT.fEpoch) rfl
          have c2 := hC2.cellAt (i := 2) (v := .int .i64 c.fS.fT.fRound) rfl
          have c3 := hC2.cellAt (i := 3) (v := .int .i64 c.fN) rfl
          clear e0 e1 e2 e3
          go_wp2_with (at_builtin; refine Shut.out ?k102)
          unfold Shut
          change wpList _ _ _ _ _ (w2.alloc (.cells (encK c).toArray 67))
          refine wpList_app1 rfl _ _ 25 rfl Tryz.underlying25 hiK hK0 hK1 hK2 rfl (by decide) (enc := encK) c rfl hO2 rfl (encK_len _) (encK_one _) (by rw [← hk.out]; omega) (by rw [← hk.out]; unfold maxLen; omega) hs2 ?_
          intro a3 cp3 w3 hown3 hbb3 hgr3
          rw [← hk.out] at hown3 ⊢
          clear hgr3
          have hC3 := hC2.below hbb3 hz1
          have hb3 := hb2.trans (hbb3.mono hw01)
          have hs3 := Nat.le_trans hs2 hbb3.size
          obtain ⟨k2, hk2⟩ : ∃ k2, k2 = k + 1 := ⟨_, rfl⟩
          obtain ⟨O2, hOe⟩ : ∃ O2, O2 = O ++ [c] := ⟨_, rfl⟩
          rw [← hk2] at hown3 ⊢
          rw [← hOe] at hown3 hI2
          have hO3 := hown3
          have hk3 : Hid (k2 = O2.length) := Lib.hid (by rw [hOe, List.length_append, hk2, hk.out]; rfl)
          have hki2 : k2 ≤ n + 2 := by omega
          replace hk2 := Lib.hid hk2
          replace hOe := Lib.hid hOe
          clear hown3 hbb3 hO2 hC2 hb2 hs2 c0 c1 c2 c3
          obtain ⟨e0, e1, e2, e3, _⟩ := RCount.at (hL.imp hb3 (Nat.le_refl _) (fun _ _ _ h => h.imp hb3 (Nat.le_refl _))) hiL hx
          have c0 := hC3.cellAt (i := 0) (v := .int .i64 c.fS.fLoc) rfl
          have c1 := hC3.cellAt (i := 1) (v := .int .i64 c.fS.fT.fEpoch) rfl
          have c2 := hC3.cellAt (i := 2) (v := .int .i64 c.fS.fT.fRound) rfl
          have c3 := hC3.cellAt (i := 3) (v := .int .i64 c.fN) rfl
          have f0 := Wd.cell e0 (World.lt_of_cell e0)
          have f1 := Wd.cell e1 (World.lt_of_cell e1)
          have f2 := Wd.cell e2 (World.lt_of_cell e2)
          have g0 := Wd.cell c0 (World.lt_of_cell c0)
          have g1 := Wd.cell c1 (World.lt_of_cell c1)
          have g2 := Wd.cell c2 (World.lt_of_cell c2)
          clear e0 e1 e2 e3 c0 c1 c2 c3
          go_upto_region 9 with fail
          refine wp_region_below (by kernel_rfl) (by kernel_rfl) ?_
          repeat (go_big_quiet_step ((go_at_call 22; exact Calls.quiet_below (hsm.out _))))
          refine wpQuiet_nil ?_
          rintro _ ⟨u, rfl⟩
          clear f0 f1 f2 g0 g1 g2 hsm
          have hO4 := OwnL.below hO3 u.h (Nat.le_refl _)
          have hC4 := hC3.below u.h hC3.lt
          have hb4 := hb3.trans (u.h.mono hb3.size)
          have hs4 := Nat.le_trans hs3 u.h.size
          obtain ⟨w4, hw4⟩ : ∃ w4, w4 = u.v := ⟨_, rfl⟩
          rw [← hw4] at hO4 hC4 hb4 hs4 ⊢
          clear hw4 hO3 hC3 hb3 hs3 u
          obtain ⟨e0, e1, e2, e3, _⟩ := RCount.at (hL.imp hb4 (Nat.le_refl _) (fun _ _ _ h => h.imp hb4 (Nat.le_refl _))) hiL hx
          have c0 := hC4.cellAt (i := 0) (v := .int .i64 c.fS.fLoc) rfl
          have c1 := hC4.cellAt (i := 1) (v := .int .i64 c.fS.fT.fEpoch) rfl
          have c2 := hC4.cellAt (i := 2) (v := .int .i64 c.fS.fT.fRound) rfl
          have c3 := hC4.cellAt (i := 3) (v := .int .i64 c.fN) rfl
          clear c0 c1 c2 c3
          go_wp2_with (at_builtin; refine Shut.out ?k103)
          unfold Shut
          change wpList _ _ _ _ _ (w4.alloc (.cells (encK x).toArray 67))
          refine wpList_app1 rfl _ _ 25 rfl Tryz.underlying25 hiK hK0 hK1 hK2 rfl (by decide) (enc := encK) x rfl hO4 rfl (encK_len _) (encK_one _) (by rw [← hk3.out]; omega) (by rw [← hk3.out]; unfold maxLen; omega) hs4 ?_
          intro a5 cp5 w5 hown5 hbb5 hgr5
          rw [← hk3.out] at hown5 ⊢
          clear hgr5
          have hC5 := hC4.below hbb5 hz1
          have hb5 := hb4.trans (hbb5.mono hw01)
          have hs5 := Nat.le_trans hs4 hbb5.size
          clear hbb5 hO4 hC4 hb4 hs4 e0 e1 e2 e3
          go_wp2_with fail
          go_roundw
          case rel => exact ⟨i + 1, O2 ++ [x], true, c.fN, by omega, by go_num, rfl, hown5, hC5, hb5, hs5, hI2⟩
          case measure => simp [intOf]; omega
        · by_cases heq : x.fS = c.fS
          · obtain ⟨hnv, hI2⟩ := hI.out.same hs.out hiL (by rw [hx]; exact heq)
            subst hnv
            rw [hx] at hI2
            have hrg := hN.out x (by rw [← hx]; exact List.getElem_mem hiL) heq
            have hwr : IntKind.i64.wrap (c.fN + x.fN) = c.fN + x.fN := IntWalk.i64_in _ (by omega)
            replace hI2 := Lib.hid hI2
            rw [decide_eq_true heq] at hsm
            rw [decide_eq_false hlt] at hbf
            replace hsm := Lib.hid hsm
            replace hbf := Lib.hid hbf
            clear hI heq hlt hrg
            go_upto_region 6 with fail
            refine wp_region_below (by kernel_rfl) (by kernel_rfl) ?_
            repeat (go_big_quiet_step ((go_at_call 70; exact Calls.quiet_below (hbf.out _))))
            refine wpQuiet_nil ?_
            rintro _ ⟨u, rfl⟩
            clear f0 f1 f2 g0 g1 g2 hbf
            have hO2 := OwnL.below hO u.h (Nat.le_refl _)
            have hC2 := hC.below u.h hC.lt
            have hb2 := hbr.trans (u.h.mono hbr.size)
            have hs2 := Nat.le_trans hsz u.h.size
            obtain ⟨w2, hw2⟩ : ∃ w2, w2 = u.v := ⟨_, rfl⟩
            rw [← hw2] at hO2 hC2 hb2 hs2 ⊢
            clear hw2 hO hC hbr hsz u
            obtain ⟨e0, e1, e2, e3, _⟩ := RCount.at (hL.imp hb2 (Nat.le_refl _) (fun _ _ _ h => h.imp hb2 (Nat.le_refl _))) hiL hx
            have c0 := hC2.cellAt (i := 0) (v := .int .i64 c.fS.fLoc) rfl
            have c1 := hC2.cellAt (i := 1) (v := .int .i64 c.fS.fT.fEpoch) rfl
            have c2 := hC2.cellAt (i := 2) (v := .int .i64 c.fS.fT.fRound) rfl
            have c3 := hC2.cellAt (i := 3) (v := .int .i64 c.fN) rfl
            have f0 := Wd.cell e0 (World.lt_of_cell e0)
            have f1 := Wd.cell e1 (World.lt_of_cell e1)
            have f2 := Wd.cell e2 (World.lt_of_cell e2)
            have g0 := Wd.cell c0 (World.lt_of_cell c0)
            have g1 := Wd.cell c1 (World.lt_of_cell c1)
            have g2 := Wd.cell c2 (World.lt_of_cell c2)
            clear e0 e1 e2 e3 c0 c1 c2 c3
            go_upto_region 9 with fail
            refine wp_region_below (by kernel_rfl) (by kernel_rfl) ?_
            repeat (go_big_quiet_step ((go_at_call 22; exact Calls.quiet_below (hsm.out _))))
            refine wpQuiet_nil ?_
            rintro _ ⟨u, rfl⟩
            clear f0 f1 f2 g0 g1 g2 hsm
            have hO4 := OwnL.below hO2 u.h (Nat.le_refl _)
            have hC4 := hC2.below u.h hC2.lt
            have hb4 := hb2.trans (u.h.mono hb2.size)
            have hs4 := Nat.le_trans hs2 u.h.size
            obtain ⟨w4, hw4⟩ : ∃ w4, w4 = u.v := ⟨_, rfl⟩
            rw [← hw4] at hO4 hC4 hb4 hs4 ⊢
            clear hw4 hO2 hC2 hb2 hs2 u
            obtain ⟨e0, e1, e2, e3, _⟩ := RCount.at (hL.imp hb4 (Nat.le_refl _) (fun _ _ _ h => h.imp hb4 (Nat.le_refl _))) hiL hx
            have c0 := hC4.cellAt (i := 0) (v := .int .i64 c.fS.fLoc) rfl
            have c1 := hC4.cellAt (i := 1) (v := .int .i64 c.fS.fT.fEpoch) rfl
            have c2 := hC4.cellAt (i := 2) (v := .int .i64 c.fS.fT.fRound) rfl
            have c3 := hC4.cellAt (i := 3) (v := .int .i64 c.fN) rfl
            have fz := hC4.frozen 3
            go_upto_region 10 with fail
            refine wp_region_quiet_tail 9 (by kernel_rfl) (by kernel_rfl) ?_
            simp only [List.take_succ_cons, List.take_zero, List.drop_succ_cons, List.drop_zero]
            repeat (go_big_quiet_step (fail))
            refine wpQuiet_nil ?_
            rintro w6 ⟨m6, hm6⟩
            have hbd : Below w4.heap.size w4 w6 := by rw [hm6]; exact below_drewN (Below.refl _ _) m6
            have hO6 := OwnL.below hO4 hbd (Nat.le_refl _)
            have hC6 := hC4.below hbd hC4.lt
            have hb6 := hb4.trans (hbd.mono hb4.size)
            have hs6 := Nat.le_trans hs4 hbd.size
            clear e0 e1 e2 e3 c0 c1 c2 c3 fz hm6 hbd hO4 hC4 hb4 hs4
            have fz := hC6.frozen 3
            have c3 := hC6.cellAt (i := 3) (v := .int .i64 c.fN) rfl
            go_upto_region 11 with fail
            refine Code.wp_world ?_
            intro w7 hw7
            have hcg : Chg (fun j => j = zb) w6 w7 := by rw [hw7]; exact (Chg.refl _ _).setCell ⟨zb, 3, none⟩ _ (fun _ => rfl)
            have hO7 := OwnL.chg hO6 hcg (fun g e e2 => by have := (OwnL.lt hO6 g e).1; omega)
            have hC7 : Blk w7 zb #[.int .i64 c.fS.fLoc, .int .i64 c.fS.fT.fEpoch, .int .i64 c.fS.fT.fRound, .int .i64 (c.fN + x.fN)] 67 := by rw [hw7]; exact hC6.set 3 _
            have hb7 : Below w.heap.size w w7 := by rw [hw7]; exact hb6.setCell (p := ⟨zb, 3, none⟩) (Nat.le_of_eq hzb.out.symm) _
            have hs7 := Nat.le_trans hs6 hcg.size
            clear hw7 hcg hO6 hC6 hb6 hs6 fz hwr c3
            obtain ⟨e0, e1, e2, e3, _⟩ := RCount.at (hL.imp hb7 (Nat.le_refl _) (fun _ _ _ h => h.imp hb7 (Nat.le_refl _))) hiL hx
            have c0 := hC7.cellAt (i := 0) (v := .int .i64 c.fS.fLoc) rfl
            have c1 := hC7.cellAt (i := 1) (v := .int .i64 c.fS.fT.fEpoch) rfl
            have c2 := hC7.cellAt (i := 2) (v := .int .i64 c.fS.fT.fRound) rfl
            have c3 := hC7.cellAt (i := 3) (v := .int .i64 (c.fN + x.fN)) rfl
            clear e0 e1 e2 e3
            go_wp2_with (at_builtin; refine Shut.out ?k104)
            unfold Shut
            change wpList _ _ _ _ _ (w7.alloc (.cells (encK (⟨c.fS, c.fN + x.fN⟩ : TCount)).toArray 67))
            refine wpList_app1 rfl _ _ 25 rfl Tryz.underlying25 hiK hK0 hK1 hK2 rfl (by decide) (enc := encK) (⟨c.fS, c.fN + x.fN⟩ : TCount) rfl hO7 rfl (encK_len _) (encK_one _) (by rw [← hk.out]; omega) (by rw [← hk.out]; unfold maxLen; omega) hs7 ?_
            intro a5 cp5 w5 hown5 hbb5 hgr5
            rw [← hk.out] at hown5 ⊢
            clear hgr5
            have hC5 := hC7.below hbb5 hz1
            have hb5 := hb7.trans (hbb5.mono hw01)
            have hs5 := Nat.le_trans hs7 hbb5.size
            clear hbb5 hO7 hC7 hb7 hs7 c0 c1 c2 c3
            go_wp2_with fail
            go_roundw
            case rel => exact ⟨i + 1, O ++ [⟨c.fS, c.fN + x.fN⟩], true, (c.fN + x.fN), by omega, by go_num, rfl, hown5, hC5, hb5, hs5, hI2⟩
            case measure => simp [intOf]; omega
          · have hI2 := hI.out.pass hiL (by rw [hx]; exact hlt) (by rw [hx]; exact heq)
            rw [hx] at hI2
            replace hI2 := Lib.hid hI2
            rw [decide_eq_false heq] at hsm
            rw [decide_eq_false hlt] at hbf
            replace hsm := Lib.hid hsm
            replace hbf := Lib.hid hbf
            clear hI heq hlt
            go_upto_region 6 with fail
            refine wp_region_below (by kernel_rfl) (by kernel_rfl) ?_
            repeat (go_big_quiet_step ((go_at_call 70; exact Calls.quiet_below (hbf.out _))))
            refine wpQuiet_nil ?_
            rintro _ ⟨u, rfl⟩
            clear f0 f1 f2 g0 g1 g2 hbf
            have hO2 := OwnL.below hO u.h (Nat.le_refl _)
            have hC2 := hC.below u.h hC.lt
            have hb2 := hbr.trans (u.h.mono hbr.size)
            have hs2 := Nat.le_trans hsz u.h.size
            obtain ⟨w2, hw2⟩ : ∃ w2, w2 = u.v := ⟨_, rfl⟩
            rw [← hw2] at hO2 hC2 hb2 hs2 ⊢
            clear hw2 hO hC hbr hsz u
            obtain ⟨e0, e1, e2, e3, _⟩ := RCount.at (hL.imp hb2 (Nat.le_refl _) (fun _ _ _ h => h.imp hb2 (Nat.le_refl _))) hiL hx
            have c0 := hC2.cellAt (i := 0) (v := .int .i64 c.fS.fLoc) rfl
            have c1 := hC2.cellAt (i := 1) (v := .int .i64 c.fS.fT.fEpoch) rfl
            have c2 := hC2.cellAt (i := 2) (v := .int .i64 c.fS.fT.fRound) rfl
            have c3 := hC2.cellAt (i := 3) (v := .int .i64 nv) rfl
            have f0 := Wd.cell e0 (World.lt_of_cell e0)
            have f1 := Wd.cell e1 (World.lt_of_cell e1)
            have f2 := Wd.cell e2 (World.lt_of_cell e2)
            have g0 := Wd.cell c0 (World.lt_of_cell c0)
            have g1 := Wd.cell c1 (World.lt_of_cell c1)
            have g2 := Wd.cell c2 (World.lt_of_cell c2)
            clear e0 e1 e2 e3 c0 c1 c2 c3
            go_upto_region 9 with fail
            refine wp_region_below (by kernel_rfl) (by kernel_rfl) ?_
            repeat (go_big_quiet_step ((go_at_call 22; exact Calls.quiet_below (hsm.out _))))
            refine wpQuiet_nil ?_
            rintro _ ⟨u, rfl⟩
            clear f0 f1 f2 g0 g1 g2 hsm
            have hO4 := OwnL.below hO2 u.h (Nat.le_refl _)
            have hC4 := hC2.below u.h hC2.lt
            have hb4 := hb2.trans (u.h.mono hb2.size)
            have hs4 := Nat.le_trans hs2 u.h.size
            obtain ⟨w4, hw4⟩ : ∃ w4, w4 = u.v := ⟨_, rfl⟩
            rw [← hw4] at hO4 hC4 hb4 hs4 ⊢
            clear hw4 hO2 hC2 hb2 hs2 u
            obtain ⟨e0, e1, e2, e3, _⟩ := RCount.at (hL.imp hb4 (Nat.le_refl _) (fun _ _ _ h => h.imp hb4 (Nat.le_refl _))) hiL hx
            have c0 := hC4.cellAt (i := 0) (v := .int .i64 c.fS.fLoc) rfl
            have c1 := hC4.cellAt (i := 1) (v := .int .i64 c.fS.fT.fEpoch) rfl
            have c2 := hC4.cellAt (i := 2) (v := .int .i64 c.fS.fT.fRound) rfl
            have c3 := hC4.cellAt (i := 3) (v := .int .i64 nv) rfl
            clear c0 c1 c2 c3
            go_wp2_with (at_builtin; refine Shut.out ?k105)
            unfold Shut
            change wpList _ _ _ _ _ (w4.alloc (.cells (encK x).toArray 67))
            refine wpList_app1 rfl _ _ 25 rfl Tryz.underlying25 hiK hK0 hK1 hK2 rfl (by decide) (enc := encK) x rfl hO4 rfl (encK_len _) (encK_one _) (by rw [← hk.out]; omega) (by rw [← hk.out]; unfold maxLen; omega) hs4 ?_
            intro a5 cp5 w5 hown5 hbb5 hgr5
            rw [← hk.out] at hown5 ⊢
            clear hgr5
            have hC5 := hC4.below hbb5 hz1
            have hb5 := hb4.trans (hbb5.mono hw01)
            have hs5 := Nat.le_trans hs4 hbb5.size
            clear hbb5 hO4 hC4 hb4 hs4 e0 e1 e2 e3
            go_wp2_with fail
            go_roundw
            case rel => exact ⟨i + 1, O ++ [x], false, nv, by omega, by go_num, rfl, hown5, hC5, hb5, hs5, hI2⟩
            case measure => simp [intOf]; omega
    · have d1 : decide ((i : Int) < (n : Int)) = false := by simp; omega
      have hI2 := hI.out
      rw [show i = L.length by rw [← hn.out]; omega] at hI2
      rcases hI2.last with ⟨rfl, hO2⟩ | ⟨rfl, hnv, hO2⟩
      · rw [hO2] at hO
        clear hI hI2 hO2
        go_wp2_with fail
        go_ret
        exact ⟨_, rfl, OwnL.base_le hO hw01, hbr⟩
      · subst hnv
        replace hO2 := Lib.hid hO2
        clear hI hI2
        have c0 := hC.cellAt (i := 0) (v := .int .i64 c.fS.fLoc) rfl
        have c1 := hC.cellAt (i := 1) (v := .int .i64 c.fS.fT.fEpoch) rfl
        have c2 := hC.cellAt (i := 2) (v := .int .i64 c.fS.fT.fRound) rfl
        have c3 := hC.cellAt (i := 3) (v := .int .i64 c.fN) rfl
        go_wp2_with (at_builtin; refine Shut.out ?k106)
        unfold Shut
        change wpList _ _ _ _ _ (wr.alloc (.cells (encK c).toArray 67))
        refine wpList_app1 rfl _ _ 25 rfl Tryz.underlying25 hiK hK0 hK1 hK2 rfl (by decide) (enc := encK) c rfl hO rfl (encK_len _) (encK_one _) (by rw [← hk.out]; omega) (by rw [← hk.out]; unfold maxLen; omega) hsz ?_
        intro a5 cp5 w5 hown5 hbb5 hgr5
        rw [← hk.out] at hown5 ⊢
        clear hgr5
        rw [hO2.out] at hown5
        have hb5 := hbr.trans (hbb5.mono hw01)
        clear hbb5 hO hC hbr c0 c1 c2 c3
        go_wp2_with fail
        go_ret
        exact ⟨_, rfl, OwnL.base_le hown5 hw01, hb5⟩
end Go.Proofs.YtjmbafcpbagpdaaGreat

/- Progress: the document's Count, Done. -/
namespace Go.Proofs.YtjmbafcpbagpdaaGreat
open Go.RowKit Go.Shelf Go.Maps
attribute [local go_sem] Oper.semAt_some
set_option linter.unusedVariables false
set_option linter.unusedSimpArgs false

theorem could_stands {ops : List TOp} {a s : TStamp} (hok : (gcheck ops).2 = 0) (ha : goodS ops a.fLoc a.fT.fEpoch a.fT.fRound = true) (hs : goodS ops s.fLoc s.fT.fEpoch s.fT.fRound = true) :
    couldS ops a.fLoc a.fT.fEpoch a.fT.fRound s.fLoc s.fT.fEpoch s.fT.fRound = stands ops s a := by
  unfold couldS wayS stands
  rw [ha, hs, decide_eq_true hok]
  by_cases h : a.fLoc = s.fLoc
  · simp [h, leT]
  · simp [h]
theorem doneC_same {ops : List TOp} {A B : List TStamp} (h : ∀ x, x ∈ A ↔ x ∈ B) (s : TStamp) : doneC ops A s = doneC ops B s := by
  unfold doneC
  congr 2
  rw [Bool.eq_iff_iff, List.any_eq_true, List.any_eq_true]
  exact ⟨fun ⟨x, h1, h2⟩ => ⟨x, (h x).1 h1, h2⟩, fun ⟨x, h1, h2⟩ => ⟨x, (h x).2 h1, h2⟩⟩

end Go.Proofs.YtjmbafcpbagpdaaGreat

/- Progress: the document's Update. -/
namespace Go.Proofs.YtjmbafcpbagpdaaGreat
open Go.RowKit Go.Shelf Go.Maps
attribute [local go_sem] Oper.semAt_some
set_option linter.unusedVariables false
set_option linter.unusedSimpArgs false

/-- A right count as it may lie in memory. -/
def wfK4 (x : TCount) : Prop := (Lit.int .i64 x.fS.fLoc).wf = true ∧ (Lit.int .i64 x.fS.fT.fEpoch).wf = true ∧ (Lit.int .i64 x.fS.fT.fRound).wf = true ∧ (Lit.int .i64 x.fN).wf = true
theorem wfN_of {n : Int} (h1 : -9223372036854775808 ≤ n) (h2 : n ≤ 9223372036854775807) : (Lit.int IntKind.i64 n).wf = true := by
  show (decide ((-9223372036854775808 : Int) ≤ n) && decide (n ≤ 9223372036854775807)) = true
  simp
  omega
theorem rcount_wf {B : Nat} {w : World} {la : Option Addr} {lc : Nat} {l : List TCount} (h : SlA B 4 (RCount B) w la lc l) : ∀ x ∈ l, wfK4 x := fun x hx => by
  exact (rcount_all (B' := B) (w' := w) h x hx).2
theorem own_count {w : World} {base : Nat} {T : TypeId} {v : Value} {L : List TCount} (h : OwnL encK w base T 4 v L) (hw : ∀ x ∈ L, wfK4 x) : ∃ ao cap, v = .slice ao L.length cap ∧ SlA w.heap.size 4 (RCount w.heap.size) w ao cap L :=
  h.sla encK_len (fun x hx => ⟨rfl, hw x hx⟩)
theorem insL_wf {c : TCount} (hc : wfK4 c) : ∀ {L : List TCount}, (∀ x ∈ L, wfK4 x) → (∀ x ∈ L, x.fS = c.fS → -9223372036854775808 ≤ c.fN + x.fN ∧ c.fN + x.fN ≤ 9223372036854775807) → ∀ x ∈ insL c L, wfK4 x
  | [], _, _, x, hx => by
    rw [insL, List.mem_singleton] at hx
    exact hx ▸ hc
  | y :: r, h, hs, x, hx => by
    unfold insL at hx
    by_cases e1 : ltS c.fS y.fS
    · rw [if_pos e1] at hx
      rcases List.mem_cons.1 hx with rfl | hx
      · exact hc
      · exact h x hx
    · rw [if_neg e1] at hx
      by_cases e2 : y.fS = c.fS
      · rw [if_pos e2] at hx
        rcases List.mem_cons.1 hx with rfl | hx
        · have := hs y (by simp) e2
          exact ⟨hc.1, hc.2.1, hc.2.2.1, wfN_of this.1 this.2⟩
        · exact h x (by simp [hx])
      · rw [if_neg e2] at hx
        rcases List.mem_cons.1 hx with rfl | hx
        · exact h x (by simp)
        · exact insL_wf hc (fun x hx => h x (by simp [hx])) (fun x hx => hs x (by simp [hx])) x hx
theorem nextL_small {ops : List TOp} {L l : List TCount} (hs : SrtL L) (hb : ∀ s, -4611686018427387904 ≤ cntL L s ∧ cntL L s ≤ 4611686018427387904) (hok : l.all (okC ops) = true) (hl : l.length ≤ 1073741824) {i : Nat} (hi : i < l.length) :
    ∀ x ∈ nextL L (l.take i), x.fS = l[i].fS → -9223372036854775808 ≤ l[i].fN + x.fN ∧ l[i].fN + x.fN ≤ 9223372036854775807 := fun x hx _ => by
  have h1 := cntL_mem (nextL_srt (l.take i) L hs) x hx
  rw [nextL_cnt _ _ _ hs] at h1
  have h2 := hb x.fS
  have hok2 : (l.take i).all (okC ops) = true := by
    rw [List.all_eq_true] at hok ⊢
    exact fun y hy => hok y (List.mem_of_mem_take hy)
  have h3 := tot_range (ops := ops) x.fS hok2
  have h4 : (l.take i).length ≤ 1073741824 := by rw [List.length_take]; omega
  have h5 : okC ops l[i] = true := by rw [List.all_eq_true] at hok; exact hok _ (List.getElem_mem hi)
  unfold okC at h5
  simp only [Bool.and_eq_true, decide_eq_true_eq] at h5
  omega
theorem leftL_snoc (M : List TCount) (c : TCount) : leftL (M ++ [c]) = leftL M ++ if c.fN = 0 then [] else [c] := by
  unfold leftL
  rw [List.filter_append]
  by_cases h : c.fN = 0 <;> simp [h]
theorem room_help {k q nL m i : Nat} (h0 : k = q) (h1 : k ≤ nL + i) (h2 : i < m) (hz : nL + m + 3 ≤ 4398046511104) : (q + 3) * 32 ≤ 140737488355328 := by
  have h3 : q + 3 ≤ 4398046511104 := by omega
  exact Nat.le_trans (Nat.mul_le_mul_right 32 h3) (by decide)
theorem room_help2 {q i k nL m : Nat} (h0 : q ≤ i) (h1 : i < k) (h2 : k ≤ nL + m) (hz : nL + m + 3 ≤ 4398046511104) : (q + 1) * 32 ≤ 140737488355328 := by
  have h3 : q + 1 ≤ 4398046511104 := by omega
  exact Nat.le_trans (Nat.mul_le_mul_right 32 h3) (by decide)
theorem leftL_len (M : List TCount) : (leftL M).length ≤ M.length := List.length_filter_le _ _

set_option maxRecDepth 100000 in
set_option maxHeartbeats 4000000 in
theorem rupd_any (mk : Nat) (ops : List TOp) (ao : Option Addr) (cap : Nat) (L l : List TCount) (aL la : Option Addr) (cL lc : Nat) (w : World) (hB : Blk w mk #[.slice ao ops.length cap, .slice aL L.length cL] 53) (hg : SlA w.heap.size 7 (ROp w.heap.size) w ao cap ops) (hL : SlA w.heap.size 4 (RCount w.heap.size) w aL cL L)
    (hx : SlA w.heap.size 4 (RCount w.heap.size) w la lc l) (hs : SrtL L) (hb : ∀ s, -4611686018427387904 ≤ cntL L s ∧ cntL L s ≤ 4611686018427387904) (hl : l.length ≤ 1073741824) (hz : L.length + l.length + 3 ≤ 4398046511104) (hok : (gcheck ops).2 = 0) :
    Calls Tryz.prog 30 #[.pointer (some ⟨mk, 0, none⟩), .slice la l.length lc] w fun e w' => e = .returned (.int .i64 (updL ops L l).1) ∧ Chg (fun k => k = mk) w w' ∧
      ∃ aL' cL', Blk w' mk #[.slice ao ops.length cap, .slice aL' (updL ops L l).2.length cL'] 53 ∧ SlA w'.heap.size 4 (RCount w'.heap.size) w' aL' cL' (updL ops L l).2 ∧ ((aL' = aL ∧ (updL ops L l).2 = L) ∨ ∀ a, aL' = some a → w.heap.size ≤ a.block ∧ a.block < w'.heap.size) := by
  obtain ⟨jK, hiK, hK0, hK1, hK2⟩ := info_parts infoK
  have hglen := hg.len
  have hlen := hx.len
  have hmk := hB.lt
  have hGd := fun W (hW : Below w.heap.size w W) (s : TStamp) => rGood_any ops cap ao s.fLoc s.fT.fEpoch s.fT.fRound w.heap.size W hW.size (imp_ops hg hW)
  rw [decide_eq_true hok] at hGd
  simp only [Bool.true_and] at hGd
  obtain ⟨n, hn⟩ : ∃ n, n = ops.length := ⟨_, rfl⟩
  obtain ⟨m, hm⟩ : ∃ m, m = l.length := ⟨_, rfl⟩
  obtain ⟨nL, hnL⟩ : ∃ nL, nL = L.length := ⟨_, rfl⟩
  obtain ⟨⟨ue, uL⟩, hU⟩ : ∃ u, u = updL ops L l := ⟨_, rfl⟩
  rw [← hn] at hB hGd hglen ⊢
  rw [← hm] at hl hz hlen ⊢
  rw [← hnL] at hB hz
  rw [← hU]
  dsimp only
  replace hn := Lib.hid hn
  replace hm := Lib.hid hm
  replace hnL := Lib.hid hnL
  replace hU := Lib.hid hU
  replace hGd := Lib.hid hGd
  replace hs := Lib.hid hs
  replace hb := Lib.hid hb
  go_enter Tryz.func30, Tryz.ntmps30
  go_wp2_with fail
  go_loopw [5] (fun x5 wr => ∃ i : Nat, i ≤ m ∧ x5 = .int .i64 i ∧ Below w.heap.size w wr ∧ Hid ((l.take i).all (okC ops) = true)) (fun x5 _ => m - (intOf x5).toNat)
  case atStart => exact ⟨0, Nat.zero_le _, rfl, Below.refl _ _, Lib.hid rfl⟩
  case round =>
    obtain ⟨i, hi, rfl, hbr, hI⟩ := hrel
    by_cases hin : i < m
    · have d1 : decide ((i : Int) < (m : Int)) = true := by simp; omega
      have hil : i < l.length := by rw [← hm.out]; exact hin
      have hsr := hx.imp hbr (Nat.le_refl _) (fun _ _ _ h => h.imp hbr (Nat.le_refl _))
      obtain ⟨b2, off2, rfl, hb2l, -⟩ := hsr.addr (by omega)
      obtain ⟨c, hc⟩ : ∃ c, l[i] = c := ⟨_, rfl⟩
      obtain ⟨e0, e1, e2, e3, -⟩ := RCount.at hsr hil hc
      have m0 := (hB.below hbr hmk).cellAt (i := 0) (v := .slice ao n cap) rfl
      have h0 := Wd.cell m0 (World.lt_of_cell m0)
      have f0 := Wd.cell e0 (World.lt_of_cell e0)
      have f1 := Wd.cell e1 (World.lt_of_cell e1)
      have f2 := Wd.cell e2 (World.lt_of_cell e2)
      have f3 := Wd.cell e3 (World.lt_of_cell e3)
      have hgd := fun W hW => hGd.out W hW c.fS
      have hsw := hbr.size
      have htk : l.take (i + 1) = l.take i ++ [c] := by rw [List.take_succ_eq_append_getElem hil, hc]
      have hcm : c ∈ l := by rw [← hc]; exact List.getElem_mem hil
      clear hsr e0 e1 e2 e3 m0
      by_cases hco : okC ops c = true
      · have hI2 : Hid ((l.take (i + 1)).all (okC ops) = true) := Lib.hid (by rw [htk, List.all_append, hI.out]; simp [hco])
        unfold okC at hco
        simp only [Bool.and_eq_true, decide_eq_true_eq] at hco
        obtain ⟨⟨q1, q2⟩, q3⟩ := hco
        have d2 : decide (c.fN < (-2147483648 : Int)) = false := by simp; omega
        have d3 : decide ((2147483648 : Int) < c.fN) = false := by simp; omega
        rw [q3] at hgd
        replace hgd := Lib.hid hgd
        clear q1 q2 q3 hI htk hcm
        go_upto_region 4 with fail
        refine wp_region_below (by kernel_rfl) (by kernel_rfl) ?_
        repeat (go_big_quiet_step ((go_at_call 35; exact Calls.quiet_below (hgd.out _ (hbr.trans (Below.mono (Wd.h _) hsw))))))
        refine wpQuiet_nil ?_
        rintro _ ⟨u, rfl⟩
        have hbu := hbr.trans (u.h.mono hbr.size)
        obtain ⟨w4, hw4⟩ : ∃ w4, w4 = u.v := ⟨_, rfl⟩
        rw [← hw4] at hbu ⊢
        clear hw4 f0 f1 f2 f3 h0 hgd
        go_wp2_with fail
        go_roundw
        case rel => exact ⟨i + 1, by omega, by go_num, hbu, hI2⟩
        case measure => simp [intOf]; omega
      · have hU2 : ue = 1 ∧ uL = L := by
          have h1 := hU.out
          unfold updL at h1
          rw [if_pos] at h1
          · simpa using h1
          · rw [Bool.eq_false_iff]
            intro h2
            rw [List.all_eq_true] at h2
            exact hco (h2 c hcm)
        obtain ⟨rfl, rfl⟩ := hU2
        have hend : ∀ W, Below w.heap.size w W → Chg (fun k => k = mk) w W ∧ ∃ aL' cL', Blk W mk #[.slice ao n cap, .slice aL' uL.length cL'] 53 ∧ SlA W.heap.size 4 (RCount W.heap.size) W aL' cL' uL ∧ (aL' = aL ∨ ∀ a, aL' = some a → w.heap.size ≤ a.block ∧ a.block < W.heap.size) := fun W hW =>
          ⟨(Chg.of_below hW).mono (fun k h1 h2 => by omega), aL, cL, by rw [← hnL.out]; exact hB.below hW hmk, hL.imp hW hW.size (fun _ _ _ h => h.imp hW hW.size), .inl rfl⟩
        replace hend := Lib.hid hend
        clear hI htk hcm
        by_cases q1 : c.fN < -2147483648
        · have d2 : decide (c.fN < (-2147483648 : Int)) = true := by simpa using q1
          replace hgd := Lib.hid hgd
          go_upto_region 4 with fail
          refine wp_region_below (by kernel_rfl) (by kernel_rfl) ?_
          repeat (go_big_quiet_step (fail))
          refine wpQuiet_nil ?_
          rintro _ ⟨u, rfl⟩
          have hbu := hbr.trans (u.h.mono hbr.size)
          obtain ⟨w4, hw4⟩ : ∃ w4, w4 = u.v := ⟨_, rfl⟩
          rw [← hw4] at hbu ⊢
          clear hw4 f0 f1 f2 f3 h0
          go_wp2_with fail
          go_ret
          exact ⟨rfl, hend.out _ hbu⟩
        · have d2 : decide (c.fN < (-2147483648 : Int)) = false := by simpa using q1
          by_cases q2 : 2147483648 < c.fN
          · have d3 : decide ((2147483648 : Int) < c.fN) = true := by simpa using q2
            replace hgd := Lib.hid hgd
            go_upto_region 4 with fail
            refine wp_region_below (by kernel_rfl) (by kernel_rfl) ?_
            repeat (go_big_quiet_step (fail))
            refine wpQuiet_nil ?_
            rintro _ ⟨u, rfl⟩
            have hbu := hbr.trans (u.h.mono hbr.size)
            obtain ⟨w4, hw4⟩ : ∃ w4, w4 = u.v := ⟨_, rfl⟩
            rw [← hw4] at hbu ⊢
            clear hw4 f0 f1 f2 f3 h0
            go_wp2_with fail
            go_ret
            exact ⟨rfl, hend.out _ hbu⟩
          · have d3 : decide ((2147483648 : Int) < c.fN) = false := by simpa using q2
            have q3 : goodS ops c.fS.fLoc c.fS.fT.fEpoch c.fS.fT.fRound = false := by
              rw [Bool.eq_false_iff]
              intro h
              refine hco ?_
              unfold okC
              simp only [Bool.and_eq_true, decide_eq_true_eq]
              exact ⟨⟨by omega, by omega⟩, h⟩
            rw [q3] at hgd
            replace hgd := Lib.hid hgd
            clear q3 q1 q2
            go_upto_region 4 with fail
            refine wp_region_below (by kernel_rfl) (by kernel_rfl) ?_
            repeat (go_big_quiet_step ((go_at_call 35; exact Calls.quiet_below (hgd.out _ (hbr.trans (Below.mono (Wd.h _) hsw))))))
            refine wpQuiet_nil ?_
            rintro _ ⟨u, rfl⟩
            have hbu := hbr.trans (u.h.mono hbr.size)
            obtain ⟨w4, hw4⟩ : ∃ w4, w4 = u.v := ⟨_, rfl⟩
            rw [← hw4] at hbu ⊢
            clear hw4 f0 f1 f2 f3 h0 hgd
            go_wp2_with fail
            go_ret
            exact ⟨rfl, hend.out _ hbu⟩
    · have d1 : decide ((i : Int) < (m : Int)) = false := by simp; omega
      have hok2 := hI.out
      rw [List.take_of_length_le (by rw [← hm.out]; omega)] at hok2
      have m1 := (hB.below hbr hmk).cellAt (i := 1) (v := .slice aL nL cL) rfl
      have hLr := hL.imp hbr hbr.size (fun _ _ _ h => h.imp hbr hbr.size)
      have hxw := rcount_wf hx
      have hLw := rcount_wf hL
      replace hok2 := Lib.hid hok2
      replace hxw := Lib.hid hxw
      replace hLw := Lib.hid hLw
      obtain ⟨wi, hwi⟩ : ∃ wi, wi = wr := ⟨_, rfl⟩
      rw [← hwi] at hbr m1 hLr ⊢
      clear hwi hI hGd
      go_wp2_with fail
      go_loopw [6, 7] (fun x6 x7 wr => ∃ (i k : Nat) (aN : Option Addr) (cN : Nat), i ≤ m ∧ x7 = .int .i64 i ∧ x6 = .slice aN k cN ∧ Hid (k = (nextL L (l.take i)).length) ∧ SlA wr.heap.size 4 (RCount wr.heap.size) wr aN cN (nextL L (l.take i)) ∧ Below w.heap.size w wr) (fun _ x7 _ => m - (intOf x7).toNat)
      case atStart => exact ⟨0, nL, aL, cL, Nat.zero_le _, rfl, rfl, Lib.hid hnL.out, hLr, hbr⟩
      case round =>
        clear m1 hLr hbr
        obtain ⟨i, k, aN, cN, hi2, rfl, rfl, hk, hN, hbr⟩ := hrel
        by_cases hin2 : i < m
        · have d1 : decide ((i : Int) < (m : Int)) = true := by simp; omega
          have hil : i < l.length := by rw [← hm.out]; exact hin2
          have hsr := hx.imp hbr (Nat.le_refl _) (fun _ _ _ h => h.imp hbr (Nat.le_refl _))
          obtain ⟨b2, off2, rfl, hb2l, -⟩ := hsr.addr (by omega)
          obtain ⟨c, hc⟩ : ∃ c, l[i] = c := ⟨_, rfl⟩
          obtain ⟨e0, e1, e2, e3, -⟩ := RCount.at hsr hil hc
          have hsm := nextL_small hs.out hb.out hok2.out (by rw [← hm.out]; exact hl) hil
          rw [hc] at hsm
          have hkl : k ≤ nL + i := by
            have := nextL_len (l.take i) L
            rw [List.length_take] at this
            have h1 := hk.out
            have h2 := hnL.out
            omega
          have htk : nextL L (l.take (i + 1)) = insL c (nextL L (l.take i)) := by rw [List.take_succ_eq_append_getElem hil, hc, nextL_snoc]
          have hz4 : ((nextL L (l.take i)).length + 3) * 32 ≤ 140737488355328 := room_help hk.out hkl hin2 hz
          have hsrt : SrtL (nextL L (l.take i)) := nextL_srt _ _ hs.out
          have hadq : ∀ M : List TCount, SlA wr.heap.size 4 (RCount wr.heap.size) wr aN cN M → SrtL M → (M.length + 3) * 32 ≤ 140737488355328 → (∀ x ∈ M, x.fS = c.fS → -9223372036854775808 ≤ c.fN + x.fN ∧ c.fN + x.fN ≤ 9223372036854775807) → k = M.length → ∀ M', M' = insL c M →
              Calls Tryz.prog 52 #[.slice aN k cN, .agg #[.int .i64 c.fS.fLoc, .int .i64 c.fS.fT.fEpoch, .int .i64 c.fS.fT.fRound, .int .i64 c.fN]] wr fun e w' => ∃ v, e = .returned v ∧ OwnL encK w' wr.heap.size 67 4 v M' ∧ Below wr.heap.size wr w' := by
            intro M g1 g2 g3 g4 g5 M' g6
            subst g5 g6
            exact add_any c M aN cN wr g1 g2 g3 g4
          have had := hadq _ hN hsrt hz4 hsm hk.out _ htk
          clear hadq hz4 hsrt
          have hwN : ∀ x ∈ nextL L (l.take (i + 1)), wfK4 x := by rw [htk]; exact insL_wf (hxw.out c (by rw [← hc]; exact List.getElem_mem hil)) (rcount_wf hN) hsm
          replace had := Lib.hid had
          replace hwN := Lib.hid hwN
          replace hsm := Lib.hid hsm
          replace htk := Lib.hid htk
          clear hsr hN
          go_wp2_with (go_at_call 52; refine Shut.out ?ka)
          unfold Shut
          refine had.out.mono ?_
          rintro e w4 ⟨v4, rfl, hO4, hb4⟩
          obtain ⟨a4, c4, rfl, hS4⟩ := own_count hO4 hwN.out
          have hbu := hbr.trans (hb4.mono hbr.size)
          clear had hO4 hb4 e0 e1 e2 e3
          dsimp only
          go_wp2_with fail
          go_roundw
          case rel => exact ⟨i + 1, _, a4, c4, by omega, by go_num, rfl, Lib.hid rfl, hS4, hbu⟩
          case measure => simp [intOf]; omega
        · have d1 : decide ((i : Int) < (m : Int)) = false := by simp; omega
          rw [List.take_of_length_le (by rw [← hm.out]; omega)] at hk hN
          obtain ⟨M, hM⟩ : ∃ M, M = nextL L l := ⟨_, rfl⟩
          rw [← hM] at hk hN
          have hkn : k ≤ nL + m := by
            have := nextL_len l L
            have h1 := hk.out
            have h2 := hnL.out
            have h3 := hm.out
            rw [← hM] at this
            omega
          have hMw := rcount_wf hN
          replace hM := Lib.hid hM
          replace hMw := Lib.hid hMw
          obtain ⟨wj, hwj⟩ : ∃ wj, wj = wr := ⟨_, rfl⟩
          rw [← hwj] at hN hbr ⊢
          have hwsz := hbr.size
          clear hwj
          go_wp2_with fail
          have hbk := hbr
          have hwj : w.heap.size ≤ wj.heap.size := hbr.size
          have hM8 : (nL + m + 3) * 32 ≤ 140737488355328 := Nat.le_trans (Nat.mul_le_mul_right 32 hz) (by decide)
          go_loopw [8, 9] (fun x8 x9 wr => ∃ i : Nat, i ≤ k ∧ x9 = .int .i64 i ∧ OwnL encK wr wj.heap.size 67 4 x8 (leftL (M.take i)) ∧ Below wj.heap.size wj wr ∧ Hid ((M.take i).any outC = false)) (fun _ x9 _ => k - (intOf x9).toNat)
          case atStart => exact ⟨0, Nat.zero_le _, rfl, OwnL.nil _ _ _ _ _, Below.refl _ _, Lib.hid rfl⟩
          case round =>
            clear hM8
            obtain ⟨i, hi3, rfl, hO, hbr3, hI3⟩ := hrel
            have hbw := hbk.trans (hbr3.mono hwj)
            obtain ⟨av, cv, hv8, -, -, -⟩ := hO.slice
            subst hv8
            obtain ⟨q, hq⟩ : ∃ q, q = (leftL (M.take i)).length := ⟨_, rfl⟩
            have hqi : q ≤ i := by
              have := leftL_len (M.take i)
              rw [List.length_take] at this
              omega
            rw [← hq] at hO ⊢
            replace hq := Lib.hid hq
            by_cases hin3 : i < k
            · have d1 : decide ((i : Int) < (k : Int)) = true := by simp; omega
              have hiM : i < M.length := by rw [← hk.out]; exact hin3
              have hNr := hN.imp hbr3 (Nat.le_refl _) (fun _ _ _ h => h.imp hbr3 (Nat.le_refl _))
              obtain ⟨b2, off2, rfl, hb2l, -⟩ := hNr.addr (by omega)
              obtain ⟨c, hc⟩ : ∃ c, M[i] = c := ⟨_, rfl⟩
              obtain ⟨e0, e1, e2, e3, -⟩ := RCount.at hNr hiM hc
              have htk : M.take (i + 1) = M.take i ++ [c] := by rw [List.take_succ_eq_append_getElem hiM, hc]
              have hcm : c ∈ M := by rw [← hc]; exact List.getElem_mem hiM
              clear hNr
              by_cases hco : outC c = true
              · have hU2 : ue = 14 ∧ uL = L := by
                  have h1 := hU.out
                  unfold updL at h1
                  rw [if_neg (by rw [hok2.out]; simp), if_pos (by rw [← hM.out]; exact List.any_eq_true.2 ⟨c, hcm, hco⟩)] at h1
                  simpa using h1
                obtain ⟨rfl, rfl⟩ := hU2
                unfold outC at hco
                simp only [Bool.or_eq_true, decide_eq_true_eq] at hco
                have hend : Hid (Chg (fun k => k = mk) w wr ∧ ∃ aL' cL', Blk wr mk #[.slice ao n cap, .slice aL' uL.length cL'] 53 ∧ SlA wr.heap.size 4 (RCount wr.heap.size) wr aL' cL' uL ∧ (aL' = aL ∨ ∀ a, aL' = some a → w.heap.size ≤ a.block ∧ a.block < wr.heap.size)) :=
                  Lib.hid ⟨(Chg.of_below hbw).mono (fun k h1 h2 => by omega), aL, cL, by rw [← hnL.out]; exact hB.below hbw hmk, hL.imp hbw hbw.size (fun _ _ _ h => h.imp hbw hbw.size), .inl rfl⟩
                clear hI3 htk hcm
                by_cases q1 : 4611686018427387904 < c.fN
                · have d2 : decide ((4611686018427387904 : Int) < c.fN) = true := by simpa using q1
                  clear q1 hco
                  go_wp2_with fail
                  go_ret
                  exact ⟨rfl, hend.out⟩
                · have d2 : decide ((4611686018427387904 : Int) < c.fN) = false := by simpa using q1
                  have d3 : decide (c.fN < (-4611686018427387904 : Int)) = true := by simp; omega
                  clear q1 hco
                  go_wp2_with fail
                  go_ret
                  exact ⟨rfl, hend.out⟩
              · have hco2 : outC c = false := by simpa using hco
                have hI4 : Hid ((M.take (i + 1)).any outC = false) := Lib.hid (by rw [htk, List.any_append, hI3.out]; simp [hco2])
                have hls := leftL_snoc (M.take i) c
                rw [← htk] at hls
                unfold outC at hco2
                simp only [Bool.or_eq_false_iff, decide_eq_false_iff_not] at hco2
                have d2 : decide ((4611686018427387904 : Int) < c.fN) = false := by simpa using hco2.1
                have d3 : decide (c.fN < (-4611686018427387904 : Int)) = false := by simp; omega
                clear hI3 htk hcm hco hco2
                by_cases h0 : c.fN = 0
                · rw [if_pos h0, List.append_nil] at hls
                  have d4 : (c.fN != 0) = false := by simpa using h0
                  replace hls := Lib.hid hls
                  clear h0
                  go_wp2_with fail
                  go_roundw
                  case rel => exact ⟨i + 1, by omega, by go_num, by rw [hls.out]; exact hO, hbr3, hI4⟩
                  case measure => simp [intOf]; omega
                · rw [if_neg h0] at hls
                  have d4 : (c.fN != 0) = true := by simpa using h0
                  replace hls := Lib.hid hls
                  clear h0
                  have hs3 := hbr3.size
                  go_wp2_with (at_builtin; refine Shut.out ?kap)
                  unfold Shut
                  change wpList _ _ _ _ _ (wr.alloc (.cells (encK c).toArray 67))
                  refine wpList_app1 rfl _ _ 25 rfl Tryz.underlying25 hiK hK0 hK1 hK2 rfl (by decide) (enc := encK) c rfl hO rfl (encK_len _) (encK_one _) (by rw [← hq.out]; exact room_help2 hqi hin3 hkn hz) (by rw [← hq.out]; unfold maxLen; omega) hs3 ?_
                  intro a5 cp5 w5 hown5 hbb5 hgr5
                  rw [← hls.out, ← hq.out] at hown5
                  rw [← hq.out]
                  have hb5 := hbr3.trans hbb5
                  clear hgr5 hbb5 hO e0 e1 e2 e3
                  go_wp2_with fail
                  go_roundw
                  case rel => exact ⟨i + 1, by omega, by go_num, hown5, hb5, hI4⟩
                  case measure => simp [intOf]; omega
            · have d1 : decide ((i : Int) < (k : Int)) = false := by simp; omega
              have hI4 := hI3.out
              have hO4 := hO
              have hq4 := hq.out
              rw [List.take_of_length_le (by rw [← hk.out]; omega)] at hI4 hO4 hq4
              have hU2 : ue = 0 ∧ uL = leftL M := by
                have h1 := hU.out
                unfold updL at h1
                rw [if_neg (by rw [hok2.out]; simp), if_neg (by rw [← hM.out, hI4]; simp), ← hM.out] at h1
                simpa using h1
              obtain ⟨rfl, rfl⟩ := hU2
              have hBr := hB.below hbw hmk
              have fz := hBr.frozen 1
              have z1 := hBr.cellAt (i := 1) (v := .slice aL nL cL) rfl
              have hlw : ∀ x ∈ leftL M, wfK4 x := fun x hx => hMw.out x (List.mem_filter.1 hx).1
              have hmj : mk < wj.heap.size := by omega
              replace hq4 := Lib.hid hq4
              replace hlw := Lib.hid hlw
              clear hI4 hO hq hI3 hU
              go_upto_region 20 with fail
              refine Code.wp_world ?_
              intro w9 hw9
              have hcg : Chg (fun j => j = mk) wr w9 := by rw [hw9]; exact (Chg.refl _ _).setCell ⟨mk, 1, none⟩ _ (fun _ => rfl)
              have hO9 := OwnL.chg hO4 hcg (fun g e e2 => by have := (OwnL.lt hO4 g e).1; omega)
              have hB9 : Blk w9 mk #[.slice ao n cap, .slice av q cv] 53 := by rw [hw9]; exact hBr.set 1 _
              have hc9 : Chg (fun k => k = mk) w w9 := ((Chg.of_below hbw).mono (fun k h1 h2 => by omega)).trans hcg
              obtain ⟨a9, c9, e, hS9⟩ := own_count hO9 hlw.out
              rw [← hq4.out] at e
              simp only [Value.slice.injEq, true_and] at e
              obtain ⟨rfl, rfl⟩ := e
              have hab : ∀ a, av = some a → w.heap.size ≤ a.block ∧ a.block < w9.heap.size := fun a e => by
                have h3 := hO9.lt a.block (by rw [e]; rfl)
                exact ⟨Nat.le_trans hwj h3.1, h3.2⟩
              clear hw9 hcg hO9 hBr fz z1 hO4
              go_wp2_with fail
              go_ret
              exact ⟨rfl, hc9, av, cv, by rw [← hq4.out]; exact hB9, hS9, .inr hab⟩
end Go.Proofs.YtjmbafcpbagpdaaGreat

/- Gossip, the document's side: a tracker that lies at a place in a block. -/
namespace Go.Proofs.YtjmbafcpbagpdaaGreat
open Go.RowKit Go.Shelf Go.Maps
attribute [local go_sem] Oper.semAt_some
set_option linter.unusedVariables false
set_option linter.unusedSimpArgs false

/-- Two cells that lie side by side: the document's tracker. -/
structure TkAt (w : World) (b k : Nat) (gv v : Value) : Prop where
  c0 : w.cell? ⟨b, k, none⟩ = some gv
  c1 : w.cell? ⟨b, k + 1, none⟩ = some v
theorem TkAt.lt {w : World} {b k : Nat} {gv v : Value} (h : TkAt w b k gv v) : b < w.heap.size := World.lt_of_cell h.c0
theorem TkAt.below {w w' : World} {b k : Nat} {gv v : Value} (h : TkAt w b k gv v) (hb : Below w.heap.size w w') : TkAt w' b k gv v := ⟨(hb.cell (p := ⟨b, k, none⟩) h.lt).trans h.c0, (hb.cell (p := ⟨b, k + 1, none⟩) h.lt).trans h.c1⟩

set_option maxRecDepth 100000 in
set_option maxHeartbeats 2000000 in
theorem raliveA (mk : Nat) (gv : Value) (L : List TCount) (aL : Option Addr) (cL : Nat) (w : World) (ko : Nat) (hB : TkAt w mk ko gv (.slice aL L.length cL)) (hs : SlA w.heap.size 4 (RCount w.heap.size) w aL cL L) (hz : (L.length + 1) * 24 ≤ 140737488355328) :
    Calls Tryz.prog 16 #[.pointer (some ⟨mk, ko, none⟩)] w fun e w' => ∃ v, e = .returned v ∧ OwnL encS w' w.heap.size 59 3 v (aliveL L) ∧ Below w.heap.size w w' := by
  obtain ⟨jS, hiS, hS0, hS1, hS2⟩ := info_parts infoS
  obtain ⟨n, hn⟩ : ∃ n, n = L.length := ⟨_, rfl⟩
  rw [← hn] at hB hz
  replace hn := Lib.hid hn
  have hmk := hB.lt
  go_enter Tryz.func16, Tryz.ntmps16
  go_wp2_with fail
  go_loopw [3, 4] (fun x3 x4 wr => ∃ i : Nat, i ≤ n ∧ x4 = .int .i64 i ∧ Below w.heap.size w wr ∧ OwnL encS wr w.heap.size 59 3 x3 (aliveL (L.take i))) (fun _ x4 _ => n - (intOf x4).toNat)
  case atStart => exact ⟨0, Nat.zero_le _, rfl, Below.refl _ _, OwnL.nil _ _ _ _ _⟩
  case round =>
    obtain ⟨i, hi, rfl, hbr, hown⟩ := hrel
    have hBr := hB.below hbr
    have c1 := hBr.c1
    have hszr := hbr.size
    by_cases hin : i < n
    · have hiL : i < L.length := by rw [← hn.out]; exact hin
      have hsr := hs.imp hbr (Nat.le_refl _) (fun _ _ _ h => h.imp hbr (Nat.le_refl _))
      obtain ⟨b2, off2, rfl, hb2l, _⟩ := hsr.addr (by omega)
      obtain ⟨c, hc⟩ : ∃ c, L[i] = c := ⟨_, rfl⟩
      obtain ⟨e0, e1, e2, e3, _⟩ := RCount.at hsr hiL hc
      have htk : aliveL (L.take (i + 1)) = aliveL (L.take i) ++ if 0 < c.fN then [c.fS] else [] := by rw [List.take_succ_eq_append_getElem hiL, hc, aliveL_snoc]
      have hal : (aliveL (L.take i)).length ≤ i := Nat.le_trans (aliveL_len _) (by rw [List.length_take]; omega)
      obtain ⟨av, cv, hv3, _, _, _⟩ := hown.slice
      obtain ⟨k, hk⟩ : ∃ k, k = (aliveL (L.take i)).length := ⟨_, rfl⟩
      rw [← hk] at hv3 hal
      subst hv3
      replace hk := Lib.hid hk
      clear hc hsr
      by_cases hp : 0 < c.fN
      · rw [if_pos hp] at htk
        replace htk := Lib.hid htk
        have d1 : decide ((0 : Int) < c.fN) = true := by simpa using hp
        have hsf : (#[.int .i64 c.fS.fLoc, .int .i64 c.fS.fT.fEpoch, .int .i64 c.fS.fT.fRound] : Array Value) = (encS c.fS).toArray := rfl
        replace hsf := Lib.hid hsf
        clear hp
        go_wp2_with (at_builtin; refine Shut.out ?kap)
        unfold Shut
        rw [hsf.out]
        refine wpList_app1 rfl _ _ 29 rfl Tryz.underlying29 hiS hS0 hS1 hS2 rfl (by decide) (enc := encS) c.fS rfl hown rfl (encS_len _) (encS_one _) (by rw [← hk.out]; omega) (by rw [← hk.out]; unfold maxLen; omega) hszr ?_
        intro a3 cp3 w7 hown7 hb7 hgr7
        have hb8 := hbr.trans hb7
        rw [← htk.out] at hown7
        rw [← hk.out]
        clear hgr7 hown c1 hBr
        rw [← hk.out] at hown7
        go_wp2_with fail
        go_roundw
        case rel => exact ⟨i + 1, by omega, by go_num, hb8, hown7⟩
        case measure => simp [intOf]; omega
      · rw [if_neg hp, List.append_nil] at htk
        replace htk := Lib.hid htk
        have d1 : decide ((0 : Int) < c.fN) = false := by simpa using hp
        clear hp
        go_wp2_with fail
        go_roundw
        case rel => exact ⟨i + 1, by omega, by go_num, hbr, by rw [htk.out]; exact hown⟩
        case measure => simp [intOf]; omega
    · obtain rfl : n = i := by omega
      rw [List.take_of_length_le (Nat.le_of_eq hn.out.symm)] at hown
      go_wp2_with fail
      go_ret
      exact ⟨_, rfl, hown, hbr⟩

set_option maxRecDepth 100000 in
set_option maxHeartbeats 2000000 in
theorem rcntA (mk : Nat) (gv : Value) (L : List TCount) (aL : Option Addr) (cL : Nat) (s : TStamp) (w : World) (ko : Nat) (hB : TkAt w mk ko gv (.slice aL L.length cL)) (hL : SlA w.heap.size 4 (RCount w.heap.size) w aL cL L) :
    Calls Tryz.prog 58 #[.pointer (some ⟨mk, ko, none⟩), .agg #[.int .i64 s.fLoc, .int .i64 s.fT.fEpoch, .int .i64 s.fT.fRound]] w fun e w' => e = .returned (.int .i64 (cntL L s)) ∧ Below w.heap.size w w' := by
  have hlen := hL.len
  obtain ⟨n, hn⟩ : ∃ n, n = L.length := ⟨_, rfl⟩
  obtain ⟨r, hr⟩ : ∃ r, r = cntL L s := ⟨_, rfl⟩
  rw [← hn] at hB hlen
  rw [← hr]
  replace hn := Lib.hid hn
  go_enter Tryz.func58, Tryz.ntmps58
  go_upto_region 1 with fail
  refine Code.wp_world ?_
  intro w1 hw1
  have hb1 : Below w.heap.size w w1 := by rw [hw1]; exact (Below.refl _ _).alloc (Nat.le_refl _) _
  have hC1 : Blk w1 w.heap.size #[.int .i64 s.fLoc, .int .i64 s.fT.fEpoch, .int .i64 s.fT.fRound] 59 := by rw [hw1]; exact Blk.new _ _ _
  obtain ⟨zb, hzb⟩ : ∃ zb, zb = w.heap.size := ⟨_, rfl⟩
  rw [← hzb] at hC1 ⊢
  have hz1 : zb < w1.heap.size := hC1.lt
  replace hzb := Lib.hid hzb
  clear hw1
  go_wp2_with fail
  go_loopw [5] (fun x5 wr => ∃ i : Nat, i ≤ n ∧ x5 = .int .i64 i ∧ Below w1.heap.size w1 wr ∧ Hid (cntL (L.drop i) s = r)) (fun x5 _ => n - (intOf x5).toNat)
  case atStart => exact ⟨0, Nat.zero_le _, rfl, Below.refl _ _, Lib.hid (by rw [List.drop_zero, hr])⟩
  case round =>
    obtain ⟨i, hi, rfl, hbr, hI⟩ := hrel
    have hbw := hb1.trans (hbr.mono hb1.size)
    have hBr := hB.below hbw
    have m1 := hBr.c1
    by_cases hin : i < n
    · have d1 : decide ((i : Int) < (n : Int)) = true := by simp; omega
      have hiL : i < L.length := by rw [← hn.out]; exact hin
      have hsr := hL.imp hbw (Nat.le_refl _) (fun _ _ _ h => h.imp hbw (Nat.le_refl _))
      obtain ⟨b2, off2, rfl, hb2l, _⟩ := hsr.addr (by omega)
      obtain ⟨x, hx⟩ : ∃ x, L[i] = x := ⟨_, rfl⟩
      obtain ⟨e0, e1, e2, e3, _⟩ := RCount.at hsr hiL hx
      have hCr := hC1.below hbr hz1
      have c0 := hCr.cellAt (i := 0) (v := .int .i64 s.fLoc) rfl
      have c1 := hCr.cellAt (i := 1) (v := .int .i64 s.fT.fEpoch) rfl
      have c2 := hCr.cellAt (i := 2) (v := .int .i64 s.fT.fRound) rfl
      have f0 := Wd.cell e0 (World.lt_of_cell e0)
      have f1 := Wd.cell e1 (World.lt_of_cell e1)
      have f2 := Wd.cell e2 (World.lt_of_cell e2)
      have f3 := Wd.cell e3 (World.lt_of_cell e3)
      have g0 := Wd.cell c0 (World.lt_of_cell c0)
      have g1 := Wd.cell c1 (World.lt_of_cell c1)
      have g2 := Wd.cell c2 (World.lt_of_cell c2)
      have h1 := Wd.cell m1 (World.lt_of_cell m1)
      have hI2 := hI.out
      rw [List.drop_eq_getElem_cons hiL, hx, cntL_cons] at hI2
      have hsm := fun W => rsame_any x.fS s W
      clear hsr e0 e1 e2 e3 c0 c1 c2 hCr hI
      by_cases heq : x.fS = s
      · rw [if_pos heq] at hI2
        rw [decide_eq_true heq] at hsm
        replace hsm := Lib.hid hsm
        replace hI2 := Lib.hid hI2
        clear heq
        go_upto_region 4 with fail
        refine wp_region_below (by kernel_rfl) (by kernel_rfl) ?_
        repeat (go_big_quiet_step ((go_at_call 22; exact Calls.quiet_below (hsm.out _))))
        refine wpQuiet_nil ?_
        rintro _ ⟨u, rfl⟩
        have hbu := hbw.trans (u.h.mono hbw.size)
        have f3u := f3 u
        have h1u := h1 u
        obtain ⟨w4, hw4⟩ : ∃ w4, w4 = u.v := ⟨_, rfl⟩
        rw [← hw4] at hbu f3u h1u ⊢
        clear hw4 f0 f1 f2 f3 g0 g1 g2 h1 m1 hBr
        go_wp2_with fail
        go_ret
        exact ⟨by rw [← hI2.out]; rfl, hbu⟩
      · rw [if_neg heq] at hI2
        rw [decide_eq_false heq] at hsm
        replace hsm := Lib.hid hsm
        replace hI2 := Lib.hid hI2
        clear heq
        go_upto_region 4 with fail
        refine wp_region_below (by kernel_rfl) (by kernel_rfl) ?_
        repeat (go_big_quiet_step ((go_at_call 22; exact Calls.quiet_below (hsm.out _))))
        refine wpQuiet_nil ?_
        rintro _ ⟨u, rfl⟩
        have hbu := hbr.trans (u.h.mono hbr.size)
        obtain ⟨w4, hw4⟩ : ∃ w4, w4 = u.v := ⟨_, rfl⟩
        rw [← hw4] at hbu ⊢
        clear hw4 f0 f1 f2 f3 g0 g1 g2 h1 m1 hBr
        go_wp2_with fail
        go_roundw
        case rel => exact ⟨i + 1, by omega, by go_num, hbu, hI2⟩
        case measure => simp [intOf]; omega
    · have d1 : decide ((i : Int) < (n : Int)) = false := by simp; omega
      have hI2 := hI.out
      rw [List.drop_of_length_le (by rw [← hn.out]; omega)] at hI2
      go_wp2_with fail
      go_ret
      exact ⟨by rw [← hI2]; rfl, hbw⟩

set_option maxRecDepth 100000 in
set_option maxHeartbeats 2000000 in
theorem rdoneA (mk : Nat) (ops : List TOp) (ao : Option Addr) (cap : Nat) (L : List TCount) (aL : Option Addr) (cL : Nat) (s : TStamp) (w : World) (ko : Nat) (hB : TkAt w mk ko (.slice ao ops.length cap) (.slice aL L.length cL)) (hg : SlA w.heap.size 7 (ROp w.heap.size) w ao cap ops) (hL : SlA w.heap.size 4 (RCount w.heap.size) w aL cL L)
    (hz : (L.length + 1) * 24 ≤ 140737488355328) (hok : (gcheck ops).2 = 0) (hgd : ∀ a ∈ aliveL L, goodS ops a.fLoc a.fT.fEpoch a.fT.fRound = true) :
    Calls Tryz.prog 18 #[.pointer (some ⟨mk, ko, none⟩), .agg #[.int .i64 s.fLoc, .int .i64 s.fT.fEpoch, .int .i64 s.fT.fRound]] w fun e w' => e = .returned (.bool (doneC ops (aliveL L) s)) ∧ Below w.heap.size w w' := by
  have hglen := hg.len
  have hGd := fun W (hW : Below w.heap.size w W) => rGood_any ops cap ao s.fLoc s.fT.fEpoch s.fT.fRound w.heap.size W hW.size (imp_ops hg hW)
  have hCd := fun W (hW : Below w.heap.size w W) (a : TStamp) => rcould_any ops cap ao a.fLoc a.fT.fEpoch a.fT.fRound s.fLoc s.fT.fEpoch s.fT.fRound w.heap.size W hW.size (imp_ops hg hW)
  have hAl := fun W (hW : Below w.heap.size w W) => raliveA mk (.slice ao ops.length cap) L aL cL W ko (hB.below hW) (hL.imp hW hW.size (fun _ _ _ h => h.imp hW hW.size)) hz
  obtain ⟨n, hn⟩ : ∃ n, n = ops.length := ⟨_, rfl⟩
  obtain ⟨m, hm⟩ : ∃ m, m = L.length := ⟨_, rfl⟩
  rw [← hn] at hB hGd hCd hglen
  rw [← hm] at hB
  replace hn := Lib.hid hn
  replace hm := Lib.hid hm
  rw [decide_eq_true hok, Bool.true_and] at hGd
  by_cases hs : goodS ops s.fLoc s.fT.fEpoch s.fT.fRound = true
  · have hdn : doneC ops (aliveL L) s = !(aliveL L).any (stands ops s) := by unfold doneC; rw [hs, Bool.true_and]
    rw [hdn]
    have hst : ∀ a ∈ aliveL L, couldS ops a.fLoc a.fT.fEpoch a.fT.fRound s.fLoc s.fT.fEpoch s.fT.fRound = stands ops s a := fun a ha => could_stands hok (hgd a ha) hs
    rw [hs] at hGd
    obtain ⟨r, hr⟩ : ∃ r, r = (aliveL L).any (stands ops s) := ⟨_, rfl⟩
    rw [← hr]
    replace hr := Lib.hid hr
    replace hAl := Lib.hid hAl
    replace hCd := Lib.hid hCd
    replace hst := Lib.hid hst
    clear hdn hs hgd hz hok
    replace hGd := Lib.hid hGd
    go_enter Tryz.func18, Tryz.ntmps18
    go_upto_region 1 with fail
    refine Code.wp_world ?_
    intro w1 hw1
    have hb1 : Below w.heap.size w w1 := by rw [hw1]; exact (Below.refl _ _).alloc (Nat.le_refl _) _
    have hC1 : Blk w1 w.heap.size #[.int .i64 s.fLoc, .int .i64 s.fT.fEpoch, .int .i64 s.fT.fRound] 59 := by rw [hw1]; exact Blk.new _ _ _
    obtain ⟨zb, hzb⟩ : ∃ zb, zb = w.heap.size := ⟨_, rfl⟩
    rw [← hzb] at hC1 ⊢
    replace hzb := Lib.hid hzb
    clear hw1
    have m0 := (hB.below hb1).c0
    have c0 := hC1.cellAt (i := 0) (v := .int .i64 s.fLoc) rfl
    have c1 := hC1.cellAt (i := 1) (v := .int .i64 s.fT.fEpoch) rfl
    have c2 := hC1.cellAt (i := 2) (v := .int .i64 s.fT.fRound) rfl
    have h0 := Wd.cell m0 (World.lt_of_cell m0)
    have g0 := Wd.cell c0 (World.lt_of_cell c0)
    have g1 := Wd.cell c1 (World.lt_of_cell c1)
    have g2 := Wd.cell c2 (World.lt_of_cell c2)
    have hs1 := hb1.size
    refine wp_region_below (by kernel_rfl) (by kernel_rfl) ?_
    repeat (go_big_quiet_step ((go_at_call 35; exact Calls.quiet_below (hGd.out _ (hb1.trans (Below.mono (Wd.h _) hs1))))))
    refine wpQuiet_nil ?_
    rintro _ ⟨u, rfl⟩
    have hb2 := hb1.trans (u.h.mono hb1.size)
    have hC2 := hC1.below u.h hC1.lt
    obtain ⟨w2, hw2⟩ : ∃ w2, w2 = u.v := ⟨_, rfl⟩
    rw [← hw2] at hb2 hC2 ⊢
    clear hw2 h0 g0 g1 g2 m0 c0 c1 c2 hs1 hC1 hGd
    go_wp2_with (go_at_call 16; refine Shut.out ?ka)
    unfold Shut
    refine (hAl.out w2 hb2).mono ?_
    rintro e w3 ⟨v, rfl, hO, hb3⟩
    obtain ⟨av, cv, rfl, hA⟩ := OwnL.sla (E := fun _ cs x => cs = encS x) hO encS_len (fun _ _ => rfl)
    obtain ⟨A, hAe⟩ : ∃ A, A = aliveL L := ⟨_, rfl⟩
    rw [← hAe] at hA hst ⊢
    have hAlen := hA.len
    obtain ⟨k, hk⟩ : ∃ k, k = A.length := ⟨_, rfl⟩
    rw [← hk] at hAlen ⊢
    have hC3 := hC2.below hb3 hC2.lt
    have hb03 := hb2.trans (hb3.mono hb2.size)
    replace hk := Lib.hid hk
    replace hAe := Lib.hid hAe
    clear hAl hO hC2 hb2 hb3
    dsimp only
    go_wp2_with fail
    go_loopw [6] (fun x6 wr => ∃ i : Nat, i ≤ k ∧ x6 = .int .i64 i ∧ Below w3.heap.size w3 wr ∧ Hid ((A.take i).any (stands ops s) = false)) (fun x6 _ => k - (intOf x6).toNat)
    case atStart => exact ⟨0, Nat.zero_le _, rfl, Below.refl _ _, Lib.hid rfl⟩
    case round =>
      obtain ⟨i, hi, rfl, hbr, hI⟩ := hrel
      have hbw := hb03.trans (hbr.mono hb03.size)
      by_cases hin : i < k
      · have d1 : decide ((i : Int) < (k : Int)) = true := by simp; omega
        have hiA : i < A.length := by rw [← hk.out]; exact hin
        have hAr := hA.imp hbr (Nat.le_refl _) (fun _ _ _ h => h) (E' := fun _ cs x => cs = encS x)
        obtain ⟨b2, off2, rfl, hb2l, _⟩ := hAr.addr (by omega)
        obtain ⟨a, ha⟩ : ∃ a, A[i] = a := ⟨_, rfl⟩
        obtain ⟨cs, -, hcs, hce⟩ := hAr.get i hiA
        rw [ha] at hce
        subst hce
        have e0 : wr.cell? ⟨b2, off2 + i * 3, none⟩ = some (.int .i64 a.fLoc) := by have := hcs 0 (by omega); simpa [encS] using this
        have e1 : wr.cell? ⟨b2, off2 + i * 3 + 1, none⟩ = some (.int .i64 a.fT.fEpoch) := by have := hcs 1 (by omega); simpa [encS, Nat.add_assoc] using this
        have e2 : wr.cell? ⟨b2, off2 + i * 3 + 2, none⟩ = some (.int .i64 a.fT.fRound) := by have := hcs 2 (by omega); simpa [encS, Nat.add_assoc] using this
        have hCr := hC3.below hbr hC3.lt
        have c0 := hCr.cellAt (i := 0) (v := .int .i64 s.fLoc) rfl
        have c1 := hCr.cellAt (i := 1) (v := .int .i64 s.fT.fEpoch) rfl
        have c2 := hCr.cellAt (i := 2) (v := .int .i64 s.fT.fRound) rfl
        have m0 := (hB.below hbw).c0
        have h0 := Wd.cell m0 (World.lt_of_cell m0)
        have f0 := Wd.cell e0 (World.lt_of_cell e0)
        have f1 := Wd.cell e1 (World.lt_of_cell e1)
        have f2 := Wd.cell e2 (World.lt_of_cell e2)
        have g0 := Wd.cell c0 (World.lt_of_cell c0)
        have g1 := Wd.cell c1 (World.lt_of_cell c1)
        have g2 := Wd.cell c2 (World.lt_of_cell c2)
        have hcd := fun W hW => hCd.out W hW a
        rw [hst.out a (by rw [← ha]; exact List.getElem_mem hiA)] at hcd
        have htk : A.take (i + 1) = A.take i ++ [a] := by rw [List.take_succ_eq_append_getElem hiA, ha]
        have hsw := hbw.size
        clear hAr hcs e0 e1 e2 c0 c1 c2 m0 hCr
        cases hsv : stands ops s a with
        | true =>
          rw [hsv] at hcd
          replace hcd := Lib.hid hcd
          have hany : A.any (stands ops s) = true := List.any_eq_true.2 ⟨a, by rw [← ha]; exact List.getElem_mem hiA, hsv⟩
          have hr2 : Hid (r = true) := Lib.hid (by rw [hr.out, ← hAe.out, hany])
          clear hsv hany hI htk
          go_upto_region 7 with fail
          refine wp_region_below (by kernel_rfl) (by kernel_rfl) ?_
          repeat (go_big_quiet_step ((go_at_call 41; exact Calls.quiet_below (hcd.out _ (hbw.trans (Below.mono (Wd.h _) hsw))))))
          refine wpQuiet_nil ?_
          rintro _ ⟨u, rfl⟩
          have hbu := hbw.trans (u.h.mono hbw.size)
          obtain ⟨w4, hw4⟩ : ∃ w4, w4 = u.v := ⟨_, rfl⟩
          rw [← hw4] at hbu ⊢
          clear hw4 f0 f1 f2 g0 g1 g2 h0
          go_wp2_with fail
          go_ret
          exact ⟨by rw [hr2.out]; rfl, hbu⟩
        | false =>
          rw [hsv] at hcd
          replace hcd := Lib.hid hcd
          have hI2 : Hid ((A.take (i + 1)).any (stands ops s) = false) := Lib.hid (by rw [htk, List.any_append, hI.out]; simp [hsv])
          clear hsv hI htk
          go_upto_region 7 with fail
          refine wp_region_below (by kernel_rfl) (by kernel_rfl) ?_
          repeat (go_big_quiet_step ((go_at_call 41; exact Calls.quiet_below (hcd.out _ (hbw.trans (Below.mono (Wd.h _) hsw))))))
          refine wpQuiet_nil ?_
          rintro _ ⟨u, rfl⟩
          have hbu := hbr.trans (u.h.mono hbr.size)
          obtain ⟨w4, hw4⟩ : ∃ w4, w4 = u.v := ⟨_, rfl⟩
          rw [← hw4] at hbu ⊢
          clear hw4 f0 f1 f2 g0 g1 g2 h0
          go_wp2_with fail
          go_roundw
          case rel => exact ⟨i + 1, by omega, by go_num, hbu, hI2⟩
          case measure => simp [intOf]; omega
      · have d1 : decide ((i : Int) < (k : Int)) = false := by simp; omega
        have hI2 := hI.out
        rw [List.take_of_length_le (by rw [← hk.out]; omega)] at hI2
        have hr2 : Hid (r = false) := Lib.hid (by rw [hr.out, ← hAe.out, hI2])
        clear hI2
        go_wp2_with fail
        go_ret
        exact ⟨by rw [hr2.out]; rfl, hbw⟩
  · have hdn : doneC ops (aliveL L) s = false := by unfold doneC; rw [Bool.eq_false_iff.2 hs]; rfl
    rw [hdn]
    rw [Bool.eq_false_iff.2 hs] at hGd
    clear hAl hCd hs hdn hgd hz hok
    replace hGd := Lib.hid hGd
    go_enter Tryz.func18, Tryz.ntmps18
    go_upto_region 1 with fail
    refine Code.wp_world ?_
    intro w1 hw1
    have hb1 : Below w.heap.size w w1 := by rw [hw1]; exact (Below.refl _ _).alloc (Nat.le_refl _) _
    have hC1 : Blk w1 w.heap.size #[.int .i64 s.fLoc, .int .i64 s.fT.fEpoch, .int .i64 s.fT.fRound] 59 := by rw [hw1]; exact Blk.new _ _ _
    obtain ⟨zb, hzb⟩ : ∃ zb, zb = w.heap.size := ⟨_, rfl⟩
    rw [← hzb] at hC1 ⊢
    replace hzb := Lib.hid hzb
    clear hw1
    have m0 := (hB.below hb1).c0
    have c0 := hC1.cellAt (i := 0) (v := .int .i64 s.fLoc) rfl
    have c1 := hC1.cellAt (i := 1) (v := .int .i64 s.fT.fEpoch) rfl
    have c2 := hC1.cellAt (i := 2) (v := .int .i64 s.fT.fRound) rfl
    have h0 := Wd.cell m0 (World.lt_of_cell m0)
    have g0 := Wd.cell c0 (World.lt_of_cell c0)
    have g1 := Wd.cell c1 (World.lt_of_cell c1)
    have g2 := Wd.cell c2 (World.lt_of_cell c2)
    have hs1 := hb1.size
    refine wp_region_below (by kernel_rfl) (by kernel_rfl) ?_
    repeat (go_big_quiet_step ((go_at_call 35; exact Calls.quiet_below (hGd.out _ (hb1.trans (Below.mono (Wd.h _) hs1))))))
    refine wpQuiet_nil ?_
    rintro _ ⟨u, rfl⟩
    have hb2 := hb1.trans (u.h.mono hb1.size)
    have hC2 := hC1.below u.h hC1.lt
    obtain ⟨w2, hw2⟩ : ∃ w2, w2 = u.v := ⟨_, rfl⟩
    rw [← hw2] at hb2 hC2 ⊢
    clear hw2 h0 g0 g1 g2 m0 c0 c1 c2 hs1 hC1 hGd
    go_wp2_with fail
    go_ret
    exact ⟨rfl, hb2⟩
end Go.Proofs.YtjmbafcpbagpdaaGreat
