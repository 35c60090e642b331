/- Wire: reading an item: what it gives; items whose blocks are known. -/
import Derived.Test.YtjgiphoolfhlmaaWt
namespace Go.Proofs.Ytjgiphoolfhlmaa
open Go.RowKit
set_option linter.unusedVariables false

/-- An item is the one of a zigzag number. -/
def unz (n : Nat) : Int := if n % 2 = 1 then -((n / 2 : Nat) : Int) - 1 else ((n / 2 : Nat) : Int)
instance : Inhabited Itm := ⟨.mk 0 0 ⟨#[]⟩ []⟩
def nilI : Itm := .mk 0 0 ⟨#[]⟩ []

def rdLp (g : Nat → List Nat → Nat × Itm × List Nat × Nat) : Nat → List Itm → List Nat → Nat → Nat × Itm × List Nat × Nat
  | 0, acc, bs, cnt => (0, .mk 2 0 ⟨#[]⟩ acc, bs, cnt)
  | n + 1, acc, bs, cnt => if (g cnt bs).1 ≠ 0 then ((g cnt bs).1, nilI, [], 0) else rdLp g n (acc ++ [(g cnt bs).2.1]) (g cnt bs).2.2.1 (g cnt bs).2.2.2
def rdBody (g : Nat → List Nat → Nat × Itm × List Nat × Nat) (cnt : Nat) (k : Nat) (q : Nat × Nat × Nat) (r : List Nat) : Nat × Itm × List Nat × Nat :=
  if q.1 ≠ 0 then (q.1, nilI, [], 0)
  else if k = 0 then (0, .mk 0 (unz q.2.1) ⟨#[]⟩ [], r.drop q.2.2, cnt)
  else if 9223372036854775807 < q.2.1 then (3, nilI, [], 0)
  else if k = 1 then (if (r.drop q.2.2).length < q.2.1 then (5, nilI, [], 0) else (0, .mk 1 0 (toB ((r.drop q.2.2).take q.2.1)) [], (r.drop q.2.2).drop q.2.1, cnt))
  else rdLp g q.2.1 [] (r.drop q.2.2) cnt
/-- The item that stands at the head of the bytes; f: how many depths may come still; cnt: how many items came. -/
def rdI : Nat → Nat → List Nat → Nat × Itm × List Nat × Nat
  | 0, _, _ => (2, nilI, [], 0)
  | f + 1, cnt, bs =>
    if 4096 < cnt + 1 then (2, nilI, [], 0) else
    match bs with
    | [] => (5, nilI, [], 0)
    | k :: r => if 2 < k then (3, nilI, [], 0) else rdBody (rdI f) (cnt + 1) k (rdN 0 0 r) r

theorem rdLp_cnt {g : Nat → List Nat → Nat × Itm × List Nat × Nat} (hg : ∀ cnt bs, (g cnt bs).1 = 0 → cnt < (g cnt bs).2.2.2 ∧ (g cnt bs).2.2.2 ≤ 4096) : ∀ n acc bs cnt, cnt ≤ 4096 → (rdLp g n acc bs cnt).1 = 0 → cnt ≤ (rdLp g n acc bs cnt).2.2.2 ∧ (rdLp g n acc bs cnt).2.2.2 ≤ 4096
  | 0, acc, bs, cnt, hc, _ => ⟨Nat.le_refl _, hc⟩
  | n + 1, acc, bs, cnt, hc, h => by
    rw [rdLp] at h ⊢
    by_cases he : (g cnt bs).1 = 0
    · rw [if_neg (by simp [he])] at h ⊢
      have h1 := hg cnt bs he
      have h2 := rdLp_cnt hg n _ _ _ h1.2 h
      omega
    · rw [if_pos he] at h; exact absurd h he
theorem rdI_cnt : ∀ f cnt bs, (rdI f cnt bs).1 = 0 → cnt < (rdI f cnt bs).2.2.2 ∧ (rdI f cnt bs).2.2.2 ≤ 4096
  | 0, cnt, bs, h => by rw [rdI] at h; simp at h
  | f + 1, cnt, [], h => by
    rw [rdI] at h
    by_cases hc : 4096 < cnt + 1
    · rw [if_pos hc] at h; simp at h
    · rw [if_neg hc] at h; simp at h
  | f + 1, cnt, k :: r, h => by
    rw [rdI] at h ⊢
    by_cases hc : 4096 < cnt + 1
    · rw [if_pos hc] at h; simp at h
    · rw [if_neg hc] at h ⊢
      by_cases hk : 2 < k
      · rw [if_pos hk] at h; simp at h
      · rw [if_neg hk] at h ⊢
        unfold rdBody at h ⊢
        by_cases h1 : (rdN 0 0 r).1 ≠ 0
        · rw [if_pos h1] at h; exact absurd h h1
        · rw [if_neg h1] at h ⊢
          by_cases h2 : k = 0
          · rw [if_pos h2]; simp; omega
          · rw [if_neg h2] at h ⊢
            by_cases h3 : 9223372036854775807 < (rdN 0 0 r).2.1
            · rw [if_pos h3] at h; simp at h
            · rw [if_neg h3] at h ⊢
              by_cases h4 : k = 1
              · rw [if_pos h4] at h ⊢
                by_cases h5 : (r.drop (rdN 0 0 r).2.2).length < (rdN 0 0 r).2.1
                · rw [if_pos h5] at h; simp at h
                · rw [if_neg h5]; simp; omega
              · rw [if_neg h4] at h ⊢
                have := rdLp_cnt (fun cnt bs => rdI_cnt f cnt bs) (rdN 0 0 r).2.1 [] (r.drop (rdN 0 0 r).2.2) (cnt + 1) (by omega) h
                omega

/-- A slice whose block is one of D. -/
def SlP {α : Type} (D : Nat → Prop) (sz : Nat) (E : World → List Value → α → Prop) (w : World) (ao : Option Addr) (cap : Nat) (xs : List α) : Prop :=
  xs.length ≤ cap ∧ cap ≤ maxLen ∧ (ao = none → cap = 0) ∧
  (xs ≠ [] → ∃ b, ao = some ⟨b, 0, none⟩ ∧ D b ∧ (∃ cells T, Blk w b cells T ∧ xs.length * sz ≤ cells.size) ∧ ∀ i (_ : i < xs.length), ∃ cs : List Value, cs.length = sz ∧ (∀ j, j < sz → w.cell? ⟨b, i * sz + j, none⟩ = cs[j]?) ∧ E w cs xs[i])
theorem SlP.imp {α : Type} {D D' : Nat → Prop} {sz : Nat} {E E' : World → List Value → α → Prop} {w w' : World} {ao : Option Addr} {cap : Nat} {xs : List α} (h : SlP D sz E w ao cap xs)
    (hD : ∀ b, D b → D' b ∧ w'.heap[b]? = w.heap[b]?) (hE : ∀ cs x, x ∈ xs → E w cs x → E' w' cs x) : SlP D' sz E' w' ao cap xs := by
  obtain ⟨h1, h2, h3, h4⟩ := h
  refine ⟨h1, h2, h3, fun hne => ?_⟩
  obtain ⟨b, rfl, hb, ⟨cells, T, hk, hks⟩, h5⟩ := h4 hne
  refine ⟨b, rfl, (hD b hb).1, ⟨cells, T, (hD b hb).2.trans hk, hks⟩, fun i hi => ?_⟩
  obtain ⟨cs, h6, h7, h8⟩ := h5 i hi
  exact ⟨cs, h6, fun j hj => by rw [World.cell?_of_block (w := w) (a := ⟨b, _, none⟩) (hD b hb).2]; exact h7 j hj, hE _ _ (List.getElem_mem _) h8⟩
/-- An item reads as x, d deep at most, its lists lying in blocks of D. -/
def RItP : Nat → (Nat → Prop) → World → List Value → Itm → Prop
  | 0, _, _, _, _ => False
  | d + 1, D, w, cs, .mk k n s l => ∃ ao cap, cs = [.int .i64 k, .int .i64 n, .string s, .slice ao l.length cap] ∧ (Lit.int .i64 k).wf = true ∧ (Lit.int .i64 n).wf = true ∧ s.size ≤ 140737488351232 ∧ l.length * 56 ≤ 140737488355328 ∧ SlP D 4 (RItP d D) w ao cap l
theorem RItP.imp {D D' : Nat → Prop} {w w' : World} (hD : ∀ b, D b → D' b ∧ w'.heap[b]? = w.heap[b]?) : ∀ {d : Nat} {cs : List Value} {x : Itm}, RItP d D w cs x → RItP d D' w' cs x
  | 0, _, _, h => h.elim
  | d + 1, cs, .mk k n s l, ⟨ao, cap, h1, h2, h3, h4, h5, h6⟩ => ⟨ao, cap, h1, h2, h3, h4, h5, h6.imp hD (fun cs x _ h => RItP.imp hD h)⟩
theorem RItP.rit {D : Nat → Prop} {B : Nat} {w : World} (hD : ∀ b, D b → b < B) : ∀ {d : Nat} {cs : List Value} {x : Itm}, RItP d D w cs x → RIt d B w cs x
  | 0, _, _, h => h.elim
  | d + 1, cs, .mk k n s l, ⟨ao, cap, h1, h2, h3, h4, h5, h6⟩ => ⟨ao, cap, h1, h2, h3, h4, h5, h6.1, h6.2.1, h6.2.2.1, fun hne => by
      obtain ⟨b, e, hb, _, h7⟩ := h6.2.2.2 hne
      refine ⟨b, 0, e, hD b hb, fun i hi => ?_⟩
      obtain ⟨cs, h8, h9, h10⟩ := h7 i hi
      exact ⟨cs, h8, fun j hj => by rw [Nat.zero_add]; exact h9 j hj, RItP.rit hD h10⟩⟩
theorem RItP.pit {d : Nat} {D : Nat → Prop} {w : World} {cs : List Value} {x : Itm} (h : RItP d D w cs x) : ∃ p : PIt, p.x = x ∧ cs = encP p := by
  obtain ⟨k, n, s, l⟩ := x
  cases d with
  | zero => exact h.elim
  | succ d =>
    obtain ⟨ao, c, rfl, _⟩ := h
    exact ⟨⟨.mk k n s l, ao, c⟩, rfl, rfl⟩
/-- Items in blocks of D. -/
def RItsP (d : Nat) (D : Nat → Prop) (w : World) (ao : Option Addr) (cap : Nat) (l : List Itm) : Prop := SlP D 4 (RItP d D) w ao cap l ∧ l.length * 56 ≤ 140737488355328
theorem RItsP.rits {d : Nat} {D : Nat → Prop} {B : Nat} {w : World} {ao : Option Addr} {cap : Nat} {l : List Itm} (h : RItsP d D w ao cap l) (hD : ∀ b, D b → b < B) : RIts d B w ao cap l := by
  refine ⟨⟨h.1.1, h.1.2.1, h.1.2.2.1, fun hne => ?_⟩, h.2⟩
  obtain ⟨b, e, hb, _, h7⟩ := h.1.2.2.2 hne
  refine ⟨b, 0, e, hD b hb, fun i hi => ?_⟩
  obtain ⟨cs, h8, h9, h10⟩ := h7 i hi
  exact ⟨cs, h8, fun j hj => by rw [Nat.zero_add]; exact h9 j hj, RItP.rit hD h10⟩
theorem RItsP.imp {d : Nat} {D D' : Nat → Prop} {w w' : World} {ao : Option Addr} {cap : Nat} {l : List Itm} (h : RItsP d D w ao cap l) (hD : ∀ b, D b → D' b ∧ w'.heap[b]? = w.heap[b]?) : RItsP d D' w' ao cap l :=
  ⟨h.1.imp hD (fun _ _ _ h => RItP.imp hD h), h.2⟩
theorem RItsP.nil (d : Nat) (D : Nat → Prop) (w : World) : RItsP d D w none 0 [] := ⟨⟨Nat.le_refl _, by unfold maxLen; omega, fun _ => rfl, fun h => absurd rfl h⟩, by simp⟩
/-- A row of the call's own, of items. -/
theorem RItsP.of_own {d base : Nat} {D : Nat → Prop} {w : World} {v : Value} {ps : List PIt} {e : TypeId} (h : OwnL encP w base e 4 v ps) (hE : ∀ p ∈ ps, RItP d D w (encP p) p.x) (hv : ∀ g, v.ownBlock = some g → D g) (hl : ps.length * 56 ≤ 140737488355328) :
    ∃ ao cap, v = .slice ao ps.length cap ∧ RItsP d D w ao cap (ps.map (·.x)) := by
  rcases h.form with ⟨h1, rfl⟩ | ⟨g, cap, cells, h1, h2, h3, h4, h5, h6, h7, h8⟩
  · exact ⟨none, 0, h1, RItsP.nil _ _ _⟩
  · refine ⟨_, cap, h1, ⟨by simpa using h3, h4, by simp, fun _ => ⟨g, rfl, hv g (by rw [h1]; rfl), ⟨cells, e, h2, by rw [h5, List.length_map]; exact Nat.mul_le_mul_right 4 h3⟩, fun i hi => ?_⟩⟩, by simpa using hl⟩
    have hi2 : i < ps.length := by simpa using hi
    refine ⟨encP ps[i], rfl, fun j hj => ?_, by simpa using hE _ (List.getElem_mem hi2)⟩
    rw [h2.cell, ← flat_at encP_len ps i j hi2 hj, ← h8, List.getElem?_take, if_pos (by omega)]
    simp
theorem RItP.mk' {d : Nat} {D : Nat → Prop} {w : World} {k n : Int} {s : ByteArray} {ao : Option Addr} {cap : Nat} {l : List Itm} (h1 : (Lit.int .i64 k).wf = true) (h2 : (Lit.int .i64 n).wf = true) (h3 : s.size ≤ 140737488351232) (h : RItsP d D w ao cap l) :
    RItP (d + 1) D w [.int .i64 k, .int .i64 n, .string s, .slice ao l.length cap] (.mk k n s l) := ⟨ao, cap, rfl, h1, h2, h3, h.2, h.1⟩

theorem results_cell_tmp {fn : Func} {p q : Tmp} {ty : TypeId} {P : Program} (h : fn.results = #[.cell p ty, .tmp q]) (tmps : Array Value) (w : World) (g : Nat) (u : Value)
    (hp : tmps.getD p undef = .pointer (some ⟨g, 0, none⟩)) (hl : (loadVar ty ⟨g, 0, none⟩).run P w = .ok u w) :
    (results fn tmps).run P w = .ok (.tuple #[u, tmps.getD q undef]) w := by
  have hp' : tmps[p]?.getD undef = .pointer (some ⟨g, 0, none⟩) := by simpa using hp
  simp [results, h, hp', asAddr, hl]
end Go.Proofs.Ytjgiphoolfhlmaa
