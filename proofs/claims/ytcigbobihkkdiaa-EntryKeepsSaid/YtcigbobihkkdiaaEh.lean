/- Entry: the plain law of decoding. -/
import Derived.Test.YtcigbobihkkdiaaEg
import Derived.Test.YtcigbobihkkdiaaWx
import Derived.Test.YtcigbobihkkdiaaWlaw
namespace Go.Proofs.Ytcigbobihkkdiaa
open Go.RowKit
set_option linter.unusedVariables false
set_option linter.unusedSimpArgs false

def tkB (l : List Itm) (i : Nat) (k : Int) : Bool := match l[i]? with | some x => decide (x.kind = k) | none => false
def tkI (l : List Itm) (i : Nat) (k : Int) : Itm := match l[i]? with | some x => if x.kind = k then x else nilI | none => nilI
theorem tk_none {l : List Itm} {i : Nat} {k : Int} (h : l.length ≤ i) : tkB l i k = false ∧ tkI l i k = nilI := by
  unfold tkB tkI
  rw [List.getElem?_eq_none h]
  exact ⟨rfl, rfl⟩
theorem tk_some {l : List Itm} {i : Nat} {k : Int} (h : i < l.length) : tkB l i k = decide (l[i].kind = k) ∧ tkI l i k = if l[i].kind = k then l[i] else nilI := by
  unfold tkB tkI
  rw [List.getElem?_eq_getElem h]
  exact ⟨rfl, rfl⟩

def tkN (l : List Itm) (i : Nat) : Int := (tkI l i 0).num
def numB (l : List Itm) (i : Nat) : Bool := tkB l i 0 && decide (0 ≤ tkN l i ∧ tkN l i ≤ 4294967295)
def numV (l : List Itm) (i : Nat) : Int := IntKind.u32.wrap (tkN l i)
def opB (o : Itm) : Bool := decide (o.kind = 2) && decide (o.lst.length = 7) && tkB o.lst 0 0 && tkB o.lst 2 0 && numB o.lst 3 && tkB o.lst 4 0 && tkB o.lst 5 0 && numB o.lst 6 && tkB o.lst 1 2 && (tkI o.lst 1 2).lst.all (fun i => decide (i.kind = 0))
def opV (o : Itm) : TOp := ⟨tkN o.lst 0, (tkI o.lst 1 2).lst.map Itm.num, tkN o.lst 2, numV o.lst 3, tkN o.lst 4, tkN o.lst 5, numV o.lst 6⟩
def zRec : TRecord := ⟨0, 0, 0, ⟨#[]⟩, 0⟩
def zEnt : TEntry := ⟨0, zRec, ⟨[]⟩, 0⟩
/-- The entry that Decode takes out of the items. -/
def edE (l : List Itm) : TEntry :=
  if tkN l 0 = 1 then ⟨1, ⟨tkN l 1, tkN l 2, tkN l 3, (tkI l 4 1).txt, numV l 5⟩, ⟨[]⟩, 0⟩
  else if tkN l 0 = 3 then ⟨3, zRec, ⟨(tkI l 1 2).lst.map opV⟩, 0⟩
  else if tkN l 0 = 0 then zEnt
  else ⟨tkN l 0, zRec, ⟨[]⟩, tkN l 1⟩
/-- Nothing was wrong. -/
def edB (l : List Itm) : Bool :=
  tkB l 0 0 && (if tkN l 0 = 1 then tkB l 1 0 && tkB l 2 0 && tkB l 3 0 && tkB l 4 1 && numB l 5
  else if tkN l 0 = 3 then tkB l 1 2 && (tkI l 1 2).lst.all opB
  else if tkN l 0 = 0 then false else tkB l 1 0)
def edC (l : List Itm) : Nat := if tkN l 0 = 1 then 6 else 2
def edO (l : List Itm) : Bool := edB l && decide (l.length = edC l) && goodB (edE l)
/-- Decode's answer: the entry and the error. -/
def edV (s : List Nat) : TEntry × Nat :=
  if s = [] then (zEnt, 0) else if (decV s).1 ≠ 0 then (zEnt, 3) else if edO (decV s).2 = true then (edE (decV s).2, 0) else (zEnt, 3)

theorem wrap_in {n : Int} (h1 : 0 ≤ n) (h2 : n ≤ 4294967295) : IntKind.u32.wrap n = n := by
  simp [IntKind.wrap, IntKind.bits, IntKind.signed]
  omega

/-- An item that is taken is in form. -/
theorem tk_at {l : List Itm} {i : Nat} {k : Int} (h : tkB l i k = true) : ∃ hi : i < l.length, l[i].kind = k ∧ tkI l i k = l[i] := by
  by_cases hi : i < l.length
  · have := tk_some (k := k) hi
    rw [this.1] at h
    have h := of_decide_eq_true h
    exact ⟨hi, h, by rw [this.2, if_pos h]⟩
  · rw [(tk_none (by omega)).1] at h
    cases h
theorem ok_int {x : Itm} (h : okI x = true) (hk : x.kind = 0) : x = intI x.num := by
  obtain ⟨k, n, s, l⟩ := x
  rw [okI, Bool.and_eq_true] at h
  obtain rfl : k = 0 := hk
  rcases form_int h.1 with ⟨_, hs, rfl⟩ | ⟨h0, _⟩ | ⟨h0, _⟩
  · rw [empty_bytes hs]; rfl
  · cases h0
  · cases h0
theorem ok_txt {x : Itm} (h : okI x = true) (hk : x.kind = 1) : x = txtI x.txt := by
  obtain ⟨k, n, s, l⟩ := x
  rw [okI, Bool.and_eq_true] at h
  obtain rfl : k = 1 := hk
  rcases form_int h.1 with ⟨h0, _⟩ | ⟨_, rfl, rfl⟩ | ⟨h0, _⟩
  · cases h0
  · rfl
  · cases h0
theorem ok_lst {x : Itm} (h : okI x = true) (hk : x.kind = 2) : x = lstI x.lst ∧ okL x.lst = true := by
  obtain ⟨k, n, s, l⟩ := x
  rw [okI, Bool.and_eq_true] at h
  obtain rfl : k = 2 := hk
  rcases form_int h.1 with ⟨h0, _⟩ | ⟨h0, _⟩ | ⟨_, rfl, hs⟩
  · cases h0
  · cases h0
  · rw [empty_bytes hs]; exact ⟨rfl, h.2⟩
theorem tk_int {l : List Itm} (h : okL l = true) {i : Nat} (hb : tkB l i 0 = true) : ∃ hi : i < l.length, l[i] = intI (tkN l i) := by
  obtain ⟨hi, hk, he⟩ := tk_at hb
  refine ⟨hi, ?_⟩
  unfold tkN
  rw [he]
  exact ok_int (okL_at h hi) hk
theorem num_int {l : List Itm} (h : okL l = true) {i : Nat} (hb : numB l i = true) : ∃ hi : i < l.length, l[i] = intI (numV l i) := by
  unfold numB at hb
  rw [Bool.and_eq_true, decide_eq_true_eq] at hb
  unfold numV
  rw [wrap_in hb.2.1 hb.2.2]
  exact tk_int h hb.1

theorem list_of2 {α : Type} {l : List α} (h : l.length = 2) : l = [l[0], l[1]] := by
  match l, h with
  | [a, b], _ => rfl
theorem list_of6 {α : Type} {l : List α} (h : l.length = 6) : l = [l[0], l[1], l[2], l[3], l[4], l[5]] := by
  match l, h with
  | [a, b, c, d, e, f], _ => rfl
theorem list_of7 {α : Type} {l : List α} (h : l.length = 7) : l = [l[0], l[1], l[2], l[3], l[4], l[5], l[6]] := by
  match l, h with
  | [a, b, c, d, e, f, g], _ => rfl

theorem ints_of {l : List Itm} (h : okL l = true) (hk : l.all (fun i => decide (i.kind = 0)) = true) : l = (l.map Itm.num).map intI := by
  rw [List.map_map]
  apply List.ext_getElem
  · simp
  · intro i h1 h2
    rw [List.getElem_map]
    have := List.all_eq_true.1 hk _ (List.getElem_mem h1)
    exact ok_int (okL_at h h1) (of_decide_eq_true this)
theorem op_of {o : Itm} (h : okI o = true) (hb : opB o = true) : o = opI (opV o) := by
  unfold opB at hb
  simp only [Bool.and_eq_true, decide_eq_true_eq] at hb
  obtain ⟨⟨⟨⟨⟨⟨⟨⟨⟨hk, hl⟩, h0⟩, h2⟩, h3⟩, h4⟩, h5⟩, h6⟩, h1⟩, hall⟩ := hb
  obtain ⟨he, hok⟩ := ok_lst h hk
  obtain ⟨_, e0⟩ := tk_int hok h0
  obtain ⟨_, e2⟩ := tk_int hok h2
  obtain ⟨_, e3⟩ := num_int hok h3
  obtain ⟨_, e4⟩ := tk_int hok h4
  obtain ⟨_, e5⟩ := tk_int hok h5
  obtain ⟨_, e6⟩ := num_int hok h6
  obtain ⟨i1, hk1, ht1⟩ := tk_at h1
  obtain ⟨e1, hok1⟩ := ok_lst (okL_at hok i1) hk1
  rw [ht1] at hall
  have e1' := ints_of hok1 hall
  have hL : o.lst = opL (opV o) := by
    unfold opL opV
    rw [ht1]
    dsimp only
    rw [← e1', ← e1, ← e0, ← e2, ← e3, ← e4, ← e5, ← e6]
    exact list_of7 hl
  rw [opI, ← hL]
  exact he

/-- What Decode takes is what Encode gives. -/
theorem ed_enc {l : List Itm} (h : okL l = true) (ho : edO l = true) : l = entI (edE l) ∧ goodB (edE l) = true ∧ (edE l).fKind ≠ 0 := by
  unfold edO edB edC at ho
  simp only [Bool.and_eq_true, decide_eq_true_eq] at ho
  obtain ⟨⟨⟨h0, hb⟩, hl⟩, hg⟩ := ho
  refine ⟨?_, hg, ?_⟩
  all_goals (
    obtain ⟨_, e0⟩ := tk_int h h0
    unfold edE
    by_cases k1 : tkN l 0 = 1)
  · rw [if_pos k1] at hb hl ⊢
    simp only [Bool.and_eq_true] at hb
    obtain ⟨⟨⟨⟨h1, h2⟩, h3⟩, h4⟩, h5⟩ := hb
    obtain ⟨_, e1⟩ := tk_int h h1
    obtain ⟨_, e2⟩ := tk_int h h2
    obtain ⟨_, e3⟩ := tk_int h h3
    obtain ⟨i4, hk4, ht4⟩ := tk_at h4
    have e4 := ok_txt (okL_at h i4) hk4
    obtain ⟨_, e5⟩ := num_int h h5
    rw [entI, if_pos rfl]
    dsimp only
    rw [ht4, ← e4, ← e1, ← e2, ← e3, ← e5, ← k1, ← e0]
    exact list_of6 hl
  · rw [if_neg k1] at hb hl ⊢
    by_cases k3 : tkN l 0 = 3
    · rw [if_pos k3] at hb ⊢
      simp only [Bool.and_eq_true] at hb
      obtain ⟨i1, hk1, ht1⟩ := tk_at hb.1
      obtain ⟨e1, hok1⟩ := ok_lst (okL_at h i1) hk1
      have ho := hb.2
      rw [ht1] at ho
      rw [entI, if_neg (by simp), if_pos rfl]
      dsimp only
      unfold gI
      rw [List.map_map, ht1]
      have hm : l[1].lst = l[1].lst.map (opI ∘ opV) := by
        apply List.ext_getElem
        · simp
        · intro i a1 a2
          rw [List.getElem_map]
          exact op_of (okL_at hok1 a1) (List.all_eq_true.1 ho _ (List.getElem_mem a1))
      rw [← hm, ← e1, ← k3, ← e0]
      exact list_of2 hl
    · rw [if_neg k3] at hb ⊢
      by_cases k0 : tkN l 0 = 0
      · rw [if_pos k0] at hb; cases hb
      · rw [if_neg k0] at hb ⊢
        obtain ⟨_, e1⟩ := tk_int h hb
        rw [entI, if_neg k1, if_neg k3]
        dsimp only
        rw [← e1, ← e0]
        exact list_of2 hl
  · rw [if_pos k1]; simp
  · rw [if_neg k1] at hb ⊢
    by_cases k3 : tkN l 0 = 3
    · rw [if_pos k3]; simp
    · rw [if_neg k3] at hb ⊢
      by_cases k0 : tkN l 0 = 0
      · rw [if_pos k0] at hb; cases hb
      · rw [if_neg k0]; exact k0

theorem op_back {o : TOp} (h3 : (Lit.int IntKind.u32 o.fNum).wf = true) (h6 : (Lit.int IntKind.u32 o.fLim).wf = true) : opB (opI o) = true ∧ opV (opI o) = o := by
  have w3 := wf_u32 h3
  have w6 := wf_u32 h6
  obtain ⟨k, ins, a, n, r, t, m⟩ := o
  dsimp only at w3 w6
  constructor
  · unfold opB
    simp [opI, opL, lstI, intI, tkB, tkI, numB, tkN, Itm.kind, Itm.lst, Itm.num, w3, w6]
  · unfold opV
    have e3 := wrap_in w3.1 w3.2
    have e6 := wrap_in w6.1 w6.2
    simp [opI, opL, lstI, intI, tkB, tkI, numV, tkN, Itm.kind, Itm.lst, Itm.num, e3, e6, Function.comp_def]

def wfOps (ops : List TOp) : Prop := ∀ o ∈ ops, (Lit.int IntKind.u32 o.fNum).wf = true ∧ (Lit.int IntKind.u32 o.fLim).wf = true

theorem bare_rec {r : TRecord} (h : bareP r) : r = zRec := by
  obtain ⟨a, b, c, k, v⟩ := r
  obtain ⟨h1, h2, h3, h4, h5⟩ := h
  dsimp only at h1 h2 h3 h4 h5
  rw [h1, h2, h3, h5, empty_bytes h4]
  rfl

/-- What Encode gives Decode takes. -/
theorem ed_back {x : TEntry} (hg : goodB x = true) (h0 : x.fKind ≠ 0) (hv : (Lit.int IntKind.u32 x.fRec.fVal).wf = true) (ho : wfOps x.fGraph.fOps) : edO (entI x) = true ∧ edE (entI x) = x := by
  have hg' := hg
  unfold goodB at hg
  have hg := of_decide_eq_true hg
  obtain ⟨⟨p1, p2, p3, p4, p5, p6, p7⟩, hins, hr⟩ := hg
  have hE : edE (entI x) = x := by
    obtain ⟨k, ⟨pr, sq, pt, ky, vl⟩, ⟨ops⟩, n⟩ := x
    dsimp only at *
    have wv := wf_u32 hv
    have ev := wrap_in wv.1 wv.2
    by_cases k1 : k = 1
    · subst k1
      have hops : ops = [] := by
        rcases p6 with h | h
        · omega
        · exact List.length_eq_zero_iff.1 h
      have hn : n = 0 := p7 (by simp)
      subst hops hn
      simp [entI, edE, tkN, tkI, intI, txtI, numV, Itm.kind, Itm.num, Itm.txt, ev]
    · have hrec := bare_rec (p5.resolve_left k1)
      by_cases k3 : k = 3
      · subst k3
        have hn : n = 0 := p7 (by simp)
        subst hn
        rw [hrec]
        have hm : (ops.map opI).map opV = ops := by
          rw [List.map_map]
          conv => rhs; rw [← List.map_id ops]
          apply List.map_congr_left
          intro o hoo
          exact (op_back (ho o hoo).1 (ho o hoo).2).2
        simp [entI, edE, tkN, tkI, intI, gI, lstI, Itm.kind, Itm.num, Itm.lst]
        rw [← List.map_map, hm]
      · have hops : ops = [] := List.length_eq_zero_iff.1 (p6.resolve_left k3)
        subst hops
        rw [hrec]
        simp [entI, edE, tkN, tkI, intI, Itm.kind, Itm.num, k1, k3, h0]
  refine ⟨?_, hE⟩
  unfold edO
  rw [hE, hg', Bool.and_true, Bool.and_eq_true, decide_eq_true_eq]
  obtain ⟨k, ⟨pr, sq, pt, ky, vl⟩, ⟨ops⟩, n⟩ := x
  dsimp only at *
  have wv := wf_u32 hv
  by_cases k1 : k = 1
  · subst k1
    simp [entI, edB, edC, tkN, tkI, tkB, intI, txtI, numB, Itm.kind, Itm.num, Itm.txt, wv]
  · by_cases k3 : k = 3
    · subst k3
      simp [entI, edB, edC, tkN, tkI, tkB, intI, gI, lstI, Itm.kind, Itm.num, Itm.lst]
      intro o hoo
      exact (op_back (ho o hoo).1 (ho o hoo).2).1
    · simp [entI, edB, edC, tkN, tkI, tkB, intI, Itm.kind, Itm.num, k1, k3, h0]

/-- The reference's guess. -/
def atN (l : List Itm) (i : Nat) : Int := match l[i]? with | some x => if x.kind = 0 then x.num else -1 | none => -1
def gOp (o : Itm) : TOp := ⟨atN o.lst 0, (match o.lst[1]? with | some x => x.lst.map Itm.num | none => []), atN o.lst 2, IntKind.u32.wrap (atN o.lst 3), atN o.lst 4, atN o.lst 5, IntKind.u32.wrap (atN o.lst 6)⟩
def gE (l : List Itm) : TEntry :=
  if atN l 0 = 1 then ⟨1, ⟨atN l 1, atN l 2, atN l 3, (match l[4]? with | some x => x.txt | none => ⟨#[]⟩), IntKind.u32.wrap (atN l 5)⟩, ⟨[]⟩, 0⟩
  else if atN l 0 = 3 then ⟨3, zRec, ⟨(match l[1]? with | some x => x.lst.map gOp | none => [])⟩, 0⟩
  else ⟨atN l 0, zRec, ⟨[]⟩, atN l 1⟩
def rdO (s : List Nat) (l : List Itm) : Bool := decide (l ≠ []) && decide (entV (gE l) = (s, 0))
def rdV (s : List Nat) : TEntry × Nat :=
  if s = [] then (zEnt, 0) else if (decV s).1 ≠ 0 then (zEnt, 3) else if rdO s (decV s).2 = true then (gE (decV s).2, 0) else (zEnt, 3)

theorem gop_back {o : TOp} (h3 : (Lit.int IntKind.u32 o.fNum).wf = true) (h6 : (Lit.int IntKind.u32 o.fLim).wf = true) : gOp (opI o) = o := by
  have w3 := wf_u32 h3
  have w6 := wf_u32 h6
  obtain ⟨k, ins, a, n, r, t, m⟩ := o
  dsimp only at w3 w6
  have e3 := wrap_in w3.1 w3.2
  have e6 := wrap_in w6.1 w6.2
  unfold gOp
  simp [opI, opL, lstI, intI, atN, Itm.kind, Itm.lst, Itm.num, e3, e6, Function.comp_def]

theorem g_back {x : TEntry} (hg : goodB x = true) (h0 : x.fKind ≠ 0) (hv : (Lit.int IntKind.u32 x.fRec.fVal).wf = true) (ho : wfOps x.fGraph.fOps) : gE (entI x) = x := by
  unfold goodB at hg
  have hg := of_decide_eq_true hg
  obtain ⟨⟨p1, p2, p3, p4, p5, p6, p7⟩, hins, hr⟩ := hg
  obtain ⟨k, ⟨pr, sq, pt, ky, vl⟩, ⟨ops⟩, n⟩ := x
  dsimp only at *
  have wv := wf_u32 hv
  have ev := wrap_in wv.1 wv.2
  by_cases k1 : k = 1
  · subst k1
    have hops : ops = [] := by
      rcases p6 with h | h
      · omega
      · exact List.length_eq_zero_iff.1 h
    have hn : n = 0 := p7 (by simp)
    subst hops hn
    simp [entI, gE, atN, intI, txtI, Itm.kind, Itm.num, Itm.txt, ev]
  · have hrec := bare_rec (p5.resolve_left k1)
    by_cases k3 : k = 3
    · subst k3
      have hn : n = 0 := p7 (by simp)
      subst hn
      rw [hrec]
      have hm : (ops.map opI).map gOp = ops := by
        rw [List.map_map]
        conv => rhs; rw [← List.map_id ops]
        apply List.map_congr_left
        intro o hoo
        exact gop_back (ho o hoo).1 (ho o hoo).2
      simp [entI, gE, atN, intI, gI, lstI, Itm.kind, Itm.num, Itm.lst]
      rw [← List.map_map, hm]
    · have hops : ops = [] := List.length_eq_zero_iff.1 (p6.resolve_left k3)
      subst hops
      rw [hrec]
      simp [entI, gE, atN, intI, Itm.kind, Itm.num, k1, k3]

theorem wrap_u32_wf (n : Int) : (Lit.int IntKind.u32 (IntKind.u32.wrap n)).wf = true := by
  simp [Lit.wf, IntKind.min, IntKind.max, IntKind.wrap, IntKind.bits, IntKind.signed]
  omega
theorem edE_wf (l : List Itm) : (Lit.int IntKind.u32 (edE l).fRec.fVal).wf = true ∧ wfOps (edE l).fGraph.fOps := by
  unfold edE
  split
  · exact ⟨wrap_u32_wf _, by simp [wfOps]⟩
  · split
    · refine ⟨rfl, ?_⟩
      intro o ho
      obtain ⟨i, _, rfl⟩ := List.mem_map.1 ho
      exact ⟨wrap_u32_wf _, wrap_u32_wf _⟩
    · split
      · exact ⟨rfl, by simp [wfOps, zEnt]⟩
      · exact ⟨rfl, by simp [wfOps]⟩
theorem gE_wf (l : List Itm) : (Lit.int IntKind.u32 (gE l).fRec.fVal).wf = true ∧ wfOps (gE l).fGraph.fOps := by
  unfold gE
  split
  · exact ⟨wrap_u32_wf _, by simp [wfOps]⟩
  · split
    · refine ⟨rfl, ?_⟩
      intro o ho
      dsimp only at ho
      split at ho
      · obtain ⟨i, _, rfl⟩ := List.mem_map.1 ho
        exact ⟨wrap_u32_wf _, wrap_u32_wf _⟩
      · simp at ho
    · exact ⟨rfl, by simp [wfOps]⟩

/-- An entry whose ints are in range: its items are in range. -/
def wfE (x : TEntry) : Prop := (Lit.int IntKind.i64 x.fKind).wf = true ∧ (Lit.int IntKind.i64 x.fRec.fProducer).wf = true ∧ (Lit.int IntKind.i64 x.fRec.fSeq).wf = true ∧ (Lit.int IntKind.i64 x.fRec.fPart).wf = true ∧ (Lit.int IntKind.u32 x.fRec.fVal).wf = true ∧ (Lit.int IntKind.i64 x.fN).wf = true ∧
  ∀ o ∈ x.fGraph.fOps, (Lit.int IntKind.i64 o.fKind).wf = true ∧ (∀ n ∈ o.fIn, (Lit.int IntKind.i64 n).wf = true) ∧ (Lit.int IntKind.i64 o.fArg).wf = true ∧ (Lit.int IntKind.u32 o.fNum).wf = true ∧ (Lit.int IntKind.i64 o.fRounds).wf = true ∧ (Lit.int IntKind.i64 o.fTest).wf = true ∧ (Lit.int IntKind.u32 o.fLim).wf = true

theorem wf_i64_mk {n : Int} (h1 : -9223372036854775808 ≤ n) (h2 : n ≤ 9223372036854775807) : (Lit.int IntKind.i64 n).wf = true := by
  simpa [Lit.wf, IntKind.min, IntKind.max, IntKind.bits, IntKind.signed] using And.intro h1 h2
theorem wfL_mem : ∀ {l : List Itm} {x : Itm}, wfL l → x ∈ l → wfI x
  | [], _, _, h => by simp at h
  | y :: r, x, h, hx => by
    rw [wfL] at h
    rcases List.mem_cons.1 hx with rfl | hx
    · exact h.1
    · exact wfL_mem h.2 hx
theorem wfI_num {x : Itm} (h : wfI x) : (Lit.int IntKind.i64 x.num).wf = true := by
  obtain ⟨k, n, s, l⟩ := x
  rw [wfI] at h
  exact wf_i64_mk h.1 h.2.1
theorem wfI_lst {x : Itm} (h : wfI x) : wfL x.lst := by
  obtain ⟨k, n, s, l⟩ := x
  rw [wfI] at h
  exact h.2.2.2.2
theorem atN_wf {l : List Itm} (h : wfL l) (i : Nat) : (Lit.int IntKind.i64 (atN l i)).wf = true := by
  unfold atN
  split
  · rename_i x hx
    split
    · exact wfI_num (wfL_mem h (List.mem_of_getElem? hx))
    · rfl
  · rfl
theorem gE_wfE {l : List Itm} (h : wfL l) : wfE (gE l) := by
  unfold gE
  split
  · exact ⟨rfl, atN_wf h _, atN_wf h _, atN_wf h _, wrap_u32_wf _, rfl, by simp⟩
  · split
    · refine ⟨rfl, rfl, rfl, rfl, rfl, rfl, ?_⟩
      intro o ho
      dsimp only at ho
      split at ho
      · rename_i y hy
        have hwy := wfI_lst (wfL_mem h (List.mem_of_getElem? hy))
        obtain ⟨i, hi, rfl⟩ := List.mem_map.1 ho
        have hwi := wfI_lst (wfL_mem hwy hi)
        refine ⟨atN_wf hwi _, ?_, atN_wf hwi _, wrap_u32_wf _, atN_wf hwi _, atN_wf hwi _, wrap_u32_wf _⟩
        intro n hn
        unfold gOp at hn
        dsimp only at hn
        split at hn
        · rename_i z hz
          obtain ⟨q, hq, rfl⟩ := List.mem_map.1 hn
          exact wfI_num (wfL_mem (wfI_lst (wfL_mem hwi (List.mem_of_getElem? hz))) hq)
        · simp at hn
      · simp at ho
    · exact ⟨atN_wf h _, rfl, rfl, rfl, rfl, atN_wf h _, by simp⟩
theorem wfI_intI {n : Int} (h : (Lit.int IntKind.i64 n).wf = true) : wfI (intI n) := by
  have := wf_i64 h
  unfold intI
  rw [wfI, wfL]
  exact ⟨this.1, this.2, by decide, by simp, trivial⟩
theorem wfI_txtI {s : ByteArray} (h : s.size ≤ 9223372036854775807) : wfI (txtI s) := by
  unfold txtI
  rw [wfI, wfL]
  exact ⟨by decide, by decide, h, by simp, trivial⟩
theorem wfI_lstI {l : List Itm} (h : wfL l) (hl : l.length ≤ 9223372036854775807) : wfI (lstI l) := by
  unfold lstI
  rw [wfI]
  exact ⟨by decide, by decide, by decide, hl, h⟩
theorem wfL_cons {x : Itm} {l : List Itm} (h : wfI x) (hl : wfL l) : wfL (x :: l) := by
  rw [wfL]; exact ⟨h, hl⟩
theorem wfL_nil : wfL [] := by rw [wfL]; trivial
theorem entI_wf {x : TEntry} (h : wfE x) (hg : goodB x = true) : wfL (entI x) := by
  unfold goodB at hg
  have hg := of_decide_eq_true hg
  obtain ⟨⟨p1, p2, p3, p4, p5, p6, p7⟩, hins, hr⟩ := hg
  obtain ⟨h1, h2, h3, h4, h5, h6, h7⟩ := h
  unfold entI
  split
  · refine wfL_cons (wfI_intI rfl) (wfL_cons (wfI_intI h2) (wfL_cons (wfI_intI h3) (wfL_cons (wfI_intI h4) (wfL_cons (wfI_txtI ?_) (wfL_cons (wfI_intI (wf_u32_i64 h5)) wfL_nil)))))
    have := hr.2.2.2.2.2
    omega
  · split
    · refine wfL_cons (wfI_intI rfl) (wfL_cons ?_ wfL_nil)
      unfold gI
      refine wfI_lstI (wfL_of ?_) (by rw [List.length_map]; omega)
      intro y hy
      obtain ⟨o, ho, rfl⟩ := List.mem_map.1 hy
      obtain ⟨q1, q2, q3, q4, q5, q6, q7⟩ := h7 o ho
      unfold opI opL
      refine wfI_lstI ?_ (by simp)
      refine wfL_cons (wfI_intI q1) (wfL_cons (wfI_lstI (wfL_of ?_) ?_) (wfL_cons (wfI_intI q3) (wfL_cons (wfI_intI (wf_u32_i64 q4)) (wfL_cons (wfI_intI q5) (wfL_cons (wfI_intI q6) (wfL_cons (wfI_intI (wf_u32_i64 q7)) wfL_nil))))))
      · intro z hz
        obtain ⟨n, hn, rfl⟩ := List.mem_map.1 hz
        exact wfI_intI (q2 n hn)
      · rw [List.length_map]
        have := hins o ho
        omega
    · exact wfL_cons (wfI_intI h1) (wfL_cons (wfI_intI h6) wfL_nil)

theorem entI_ne (x : TEntry) : entI x ≠ [] := by
  unfold entI
  split
  · simp
  · split <;> simp

theorem entV_ok {x : TEntry} {s : List Nat} (h : entV x = (s, 0)) (hs : s ≠ []) : goodB x = true ∧ x.fKind ≠ 0 ∧ encV (entI x) = (0, s) := by
  unfold entV at h
  by_cases hg : goodB x = false
  · rw [if_pos hg] at h
    cases h
  rw [if_neg hg] at h
  by_cases hk : x.fKind = 0
  · rw [if_pos hk] at h
    cases h
    exact absurd rfl hs
  rw [if_neg hk] at h
  refine ⟨by simpa using hg, hk, ?_⟩
  simp only [Prod.mk.injEq] at h
  rw [← h.1, ← h.2]

/-- The reference's answer is the program's. -/
theorem dec_law {s : List Nat} (hb : ∀ x ∈ s, x < 256) (hl : wfL (decV s).2) : rdV s = edV s := by
  unfold rdV edV
  by_cases hs : s = []
  · rw [if_pos hs, if_pos hs]
  rw [if_neg hs, if_neg hs]
  by_cases he : (decV s).1 = 0
  · have hr1 : ¬ (decV s).1 ≠ 0 := by simpa using he
    rw [if_neg hr1, if_neg hr1]
    obtain ⟨l, hd⟩ : ∃ l, decV s = (0, l) := ⟨(decV s).2, by rw [← he]⟩
    rw [hd] at hl ⊢
    dsimp only at hl ⊢
    have hE := enc_dec hb hd
    have hok : okL l = true := (encV_ok (by rw [hE])).2
    by_cases ho : edO l = true
    · obtain ⟨h1, h2, h3⟩ := ed_enc hok ho
      have hw := edE_wf l
      have hg := g_back h2 h3 hw.1 hw.2
      rw [← h1] at hg
      have hr : rdO s l = true := by
        unfold rdO
        rw [Bool.and_eq_true, decide_eq_true_eq, decide_eq_true_eq]
        refine ⟨by rw [h1]; exact entI_ne _, ?_⟩
        rw [hg, entV, if_neg (by rw [h2]; simp), if_neg h3, ← h1, hE]
      rw [if_pos hr, if_pos ho, hg]
    · have hr : ¬ rdO s l = true := by
        intro hr
        unfold rdO at hr
        rw [Bool.and_eq_true, decide_eq_true_eq, decide_eq_true_eq] at hr
        obtain ⟨h1, h2, h3⟩ := entV_ok hr.2 hs
        have hw := gE_wfE hl
        have hd2 := dec_enc (entI_wf hw h1) (by rw [h3])
        rw [h3, hd] at hd2
        simp only [Prod.mk.injEq, true_and] at hd2
        have hu := gE_wf l
        have := (ed_back h1 h2 hu.1 hu.2).1
        rw [← hd2] at this
        exact ho this
      rw [if_neg hr, if_neg ho]
  · have hr1 : (decV s).1 ≠ 0 := he
    rw [if_pos hr1, if_pos hr1]

/-- What is encoded is decoded. -/
theorem ent_back {x : TEntry} (hw : wfE x) (h : (entV x).2 = 0) (h0 : x.fKind ≠ 0) : edV (entV x).1 = (x, 0) := by
  rcases hv : entV x with ⟨s, e⟩
  rw [hv] at h
  dsimp only at h ⊢
  subst h
  have hg : goodB x = true := by
    unfold entV at hv
    by_cases hg : goodB x = false
    · rw [if_pos hg] at hv; cases hv
    · simpa using hg
  have he : encV (entI x) = (0, s) := by
    unfold entV at hv
    rw [if_neg (by rw [hg]; simp), if_neg h0] at hv
    simp only [Prod.mk.injEq] at hv
    rw [← hv.1, ← hv.2]
  have hd := dec_enc (entI_wf hw hg) (by rw [he])
  rw [he] at hd
  dsimp only at hd
  unfold edV
  have hs : s ≠ [] := by
    rintro rfl
    have : decV [] = (0, []) := by kernel_rfl
    rw [this] at hd
    simp only [Prod.mk.injEq, true_and] at hd
    exact entI_ne x hd.symm
  obtain ⟨h1, h2⟩ := ed_back hg h0 hw.2.2.2.2.1 (fun o ho => ⟨(hw.2.2.2.2.2.2 o ho).2.2.2.1, (hw.2.2.2.2.2.2 o ho).2.2.2.2.2.2⟩)
  rw [if_neg hs, hd, if_neg (by simp)]
  dsimp only
  rw [if_pos h1, h2]

/-- What is decoded is encoded to the same text. -/
theorem ent_dec {s : List Nat} (hb : ∀ x ∈ s, x < 256) (h : (edV s).2 = 0) : entV (edV s).1 = (s, 0) := by
  unfold edV at h ⊢
  by_cases hs : s = []
  · rw [if_pos hs, hs]
    kernel_rfl
  rw [if_neg hs] at h ⊢
  by_cases he : (decV s).1 = 0
  · have hr1 : ¬ (decV s).1 ≠ 0 := by simpa using he
    rw [if_neg hr1] at h ⊢
    obtain ⟨l, hd⟩ : ∃ l, decV s = (0, l) := ⟨(decV s).2, by rw [← he]⟩
    rw [hd] at h ⊢
    dsimp only at h ⊢
    have hE := enc_dec hb hd
    have hok : okL l = true := (encV_ok (by rw [hE])).2
    by_cases ho : edO l = true
    · rw [if_pos ho]
      obtain ⟨h1, h2, h3⟩ := ed_enc hok ho
      rw [entV, if_neg (by rw [h2]; simp), if_neg h3, ← h1, hE]
    · rw [if_neg ho] at h; cases h
  · have hr1 : (decV s).1 ≠ 0 := he
    rw [if_pos hr1] at h; cases h
theorem ed_err {s : List Nat} (h : (edV s).2 ≠ 0) : edV s = (zEnt, 3) := by
  unfold edV at h ⊢
  by_cases hs : s = []
  · rw [if_pos hs] at h; exact absurd rfl h
  rw [if_neg hs] at h ⊢
  split at h
  · rename_i h1; rw [if_pos h1]
  · rename_i h1
    rw [if_neg h1]
    split at h
    · exact absurd rfl h
    · rename_i h2; rw [if_neg h2]
end Go.Proofs.Ytcigbobihkkdiaa
