/- Wire: items as Lean data; how a slice of items reads. -/
import Derived.Test.YtjgiphoolfhlmaaRows
import Derived.Test.YtjgiphoolfhlmaaL1
import Derived.SizedLaws
import Derived.Lib.Hide
namespace Go.Proofs.Ytjgiphoolfhlmaa
open Go.RowKit Go.ChangeShapes Go.WideShapes
set_option linter.unusedVariables false
set_option maxRecDepth 100000

inductive Itm where
  | mk (kind n : Int) (s : ByteArray) (l : List Itm)
namespace Itm
def kind : Itm → Int | mk k _ _ _ => k
def num : Itm → Int | mk _ n _ _ => n
def txt : Itm → ByteArray | mk _ _ s _ => s
def lst : Itm → List Itm | mk _ _ _ l => l
end Itm
instance : Inhabited Itm := ⟨.mk 0 0 ⟨#[]⟩ []⟩

/-- An item reads as x, its lists d deep at most. -/
def RIt : Nat → Nat → World → List Value → Itm → Prop
  | 0, _, _, _, _ => False
  | d + 1, B, w, cs, .mk k n s l => ∃ ao cap, cs = [.int .i64 k, .int .i64 n, .string s, .slice ao l.length cap] ∧ (Lit.int .i64 k).wf = true ∧ (Lit.int .i64 n).wf = true ∧ s.size ≤ 140737488351232 ∧ l.length * 56 ≤ 140737488355328 ∧ SlA B 4 (RIt d B) w ao cap l

theorem RIt.imp {B B' : Nat} {w w' : World} (hb : Below B w w') (hB : B ≤ B') : ∀ {d : Nat} {cs : List Value} {x : Itm}, RIt d B w cs x → RIt d B' w' cs x
  | 0, _, _, h => h.elim
  | d + 1, cs, .mk k n s l, ⟨ao, cap, h1, h2, h3, h4, h5, h6⟩ => ⟨ao, cap, h1, h2, h3, h4, h5, h6.imp hb hB (fun cs x _ h => RIt.imp hb hB h)⟩

/-- A slice of items. -/
def RIts (d B : Nat) (w : World) (ao : Option Addr) (cap : Nat) (l : List Itm) : Prop := SlA B 4 (RIt d B) w ao cap l ∧ l.length * 56 ≤ 140737488355328
theorem RIts.imp {d B B' : Nat} {w w' : World} {ao : Option Addr} {cap : Nat} {l : List Itm} (h : RIts d B w ao cap l) (hb : Below B w w') (hB : B ≤ B') : RIts d B' w' ao cap l :=
  ⟨h.1.imp hb hB (fun cs x _ h => RIt.imp hb hB h), h.2⟩
theorem RIts.below {d B : Nat} {w w' : World} {ao : Option Addr} {cap : Nat} {l : List Itm} (h : RIts d B w ao cap l) (hb : Below B w w') : RIts d B w' ao cap l := h.imp hb (Nat.le_refl _)
theorem RIts.len {d B : Nat} {w : World} {ao : Option Addr} {cap : Nat} {l : List Itm} (h : RIts d B w ao cap l) : l.length * 56 ≤ 140737488355328 := h.2
theorem RIts.nil (d B : Nat) (w : World) : RIts d B w none 0 [] := ⟨SlA.nil _ _ _ _, by simp⟩

/-- The element i: its cells. -/
theorem RIts.at {d B : Nat} {w : World} {b off cap i : Nat} {l : List Itm} (h : RIts d B w (some ⟨b, off, none⟩) cap l) (hi : i < l.length) {k n : Int} {s : ByteArray} {r : List Itm} (hx : l[i] = .mk k n s r) :
    ∃ ao c d', d = d' + 1 ∧ w.cell? ⟨b, off + i * 4, none⟩ = some (.int .i64 k) ∧ w.cell? ⟨b, off + i * 4 + 1, none⟩ = some (.int .i64 n) ∧ w.cell? ⟨b, off + i * 4 + 2, none⟩ = some (.string s) ∧ w.cell? ⟨b, off + i * 4 + 3, none⟩ = some (.slice ao r.length c) ∧
      (Lit.int .i64 k).wf = true ∧ (Lit.int .i64 n).wf = true ∧ s.size ≤ 140737488351232 ∧ RIts d' B w ao c r := by
  obtain ⟨cs, _, hc, hr⟩ := h.1.get i hi
  rw [hx] at hr
  cases d with
  | zero => exact hr.elim
  | succ d =>
    obtain ⟨ao, c, rfl, h1, h2, h3, h4, h5⟩ := hr
    exact ⟨ao, c, d, rfl, by simpa using hc 0 (by omega), by simpa [Nat.add_assoc] using hc 1 (by omega), by simpa [Nat.add_assoc] using hc 2 (by omega), by simpa [Nat.add_assoc] using hc 3 (by omega), h1, h2, h3, h5, h4⟩

section
variable {H : Type} {enc : TypeId × Value → H} {spare : Nat → Bool} {held : Bool}

theorem weights_elem {e : TypeId} {d : DataW H} : ∀ {ds : List (DataW H)}, d ∈ ds → ∀ n ∈ d.weights Try.prog e, n ∈ DataW.weightsAll Try.prog e ds
  | x :: r, h, n, hn => by
    simp only [DataW.weightsAll, List.mem_append]
    rcases List.mem_cons.1 h with rfl | h
    · exact .inl hn
    · exact .inr (weights_elem h n hn)

theorem item_of_trod {B : Nat} {w : World} {n : Nat} {cs : List Value} {x : DataW H × List MemPlace} (h : DataW.trod enc Try.prog w 0 spare held (n + 1) 63 cs = some x) (hp : ∀ p ∈ x.2, p.block < B)
    (hwt : ∀ m ∈ x.1.weights Try.prog 63, m ≤ 140737488351232)
    (ih : ∀ {cs : List Value} {x : DataW H × List MemPlace}, DataW.trod enc Try.prog w 0 spare held n 61 cs = some x → (∀ p ∈ x.2, p.block < B) →
      (∀ n ∈ x.1.weights Try.prog 61, n ≤ 140737488351232) → ∃ ao cap xs, cs = [.slice ao xs.length cap] ∧ RIts (n - 1) B w ao cap xs) :
    ∃ a, RIt n B w cs a := by
  obtain ⟨ys, n', hn', rfl, hl, hlen, hf⟩ := DataW.trod_struct Try.underlying63 h
  obtain rfl : n = n' := by omega
  have hsz : Try.prog.cellsOf 63 = 4 := by kernel_rfl
  rw [hsz] at hl
  match cs, hl, ys, hlen, hf, hp, hwt with
  | [c0, c1, c2, c3], _, [y0, y1, y2, y3], _, hf, hp, hwt =>
    have g0 : DataW.trod enc Try.prog w 0 spare held n 3 (([c0, c1, c2, c3].drop 0).take (Try.prog.cellsOf 3)) = some y0 := hf 0 _ rfl
    rw [show Try.prog.cellsOf 3 = 1 by kernel_rfl] at g0
    have g1 : DataW.trod enc Try.prog w 0 spare held n 3 (([c0, c1, c2, c3].drop 1).take (Try.prog.cellsOf 3)) = some y1 := hf 1 _ rfl
    rw [show Try.prog.cellsOf 3 = 1 by kernel_rfl] at g1
    have g2 : DataW.trod enc Try.prog w 0 spare held n 9 (([c0, c1, c2, c3].drop 2).take (Try.prog.cellsOf 9)) = some y2 := hf 2 _ rfl
    rw [show Try.prog.cellsOf 9 = 1 by kernel_rfl] at g2
    have g3 : DataW.trod enc Try.prog w 0 spare held n 61 (([c0, c1, c2, c3].drop 3).take (Try.prog.cellsOf 61)) = some y3 := hf 3 _ rfl
    rw [show Try.prog.cellsOf 61 = 1 by kernel_rfl] at g3
    have hw : DataW.weights Try.prog 63 (.agg [y0.1, y1.1, y2.1, y3.1]) = y0.1.weights Try.prog 3 ++ (y1.1.weights Try.prog 3 ++ (y2.1.weights Try.prog 9 ++ (y3.1.weights Try.prog 61 ++ []))) := by
      conv => lhs; unfold DataW.weights
      rw [Try.underlying63]
      rfl
    have hwt' : ∀ m ∈ y0.1.weights Try.prog 3 ++ (y1.1.weights Try.prog 3 ++ (y2.1.weights Try.prog 9 ++ (y3.1.weights Try.prog 61 ++ []))), m ≤ 140737488351232 := fun m hm => hwt m (by
      show m ∈ DataW.weights Try.prog 63 (.agg [y0.1, y1.1, y2.1, y3.1])
      rw [hw]; exact hm)
    obtain ⟨a0, e0, w0⟩ := RI.of_trod Try.underlying3 g0
    obtain ⟨a1, e1, w1⟩ := RI.of_trod Try.underlying3 g1
    obtain ⟨bs, e2, h2, hb2⟩ := DataW.trod_string Try.underlying9 g2
    obtain ⟨ao, cap, xs, e3, h3⟩ := ih g3 (fun p hq => hp p (List.mem_flatMap.2 ⟨y3, by simp, hq⟩)) (fun m hm => hwt' m (by simp [hm]))
    simp only [List.drop_zero, List.drop_succ_cons, List.take_succ_cons, List.take_zero, List.cons.injEq, and_true] at e0 e1 e2 e3
    have hs2 : bs.size ≤ 140737488351232 := by
      refine hwt' _ ?_
      simp only [List.mem_append]
      right; right; left
      rw [h2]
      simp [DataW.weights]
    cases n with
    | zero => simp [DataW.trod] at g0
    | succ n =>
      refine ⟨.mk a0 a1 bs xs, ao, cap, by rw [e0, e1, e2, e3], w0, w1, hs2, h3.2, h3.1⟩

theorem items_of_trod {B : Nat} {w : World} (hspare : ∀ b, spare b = true) : ∀ (fuel : Nat) {cs : List Value} {x : DataW H × List MemPlace}, DataW.trod enc Try.prog w 0 spare held fuel 61 cs = some x → (∀ p ∈ x.2, p.block < B) →
    (∀ n ∈ x.1.weights Try.prog 61, n ≤ 140737488351232) → ∃ ao cap xs, cs = [.slice ao xs.length cap] ∧ RIts (fuel - 1) B w ao cap xs := by
  intro fuel
  induction fuel using Nat.strongRecOn with
  | ind fuel ih =>
  intro cs x h hp hwt
  rcases DataW.trod_slice Try.underlying61 h with ⟨rfl, rfl⟩ | ⟨a, len, cap, elems, rest, n, rfl, rfl, rfl, _, hl, hm, hlen, hel, hsp, hns⟩
  · exact ⟨none, 0, [], rfl, RIts.nil _ _ _⟩
  have hsz : Try.prog.cellsOf 63 = 4 := by kernel_rfl
  have hby : Try.prog.bytesOf 63 = 56 := by kernel_rfl
  rw [hsz] at hel hp
  subst hlen
  have hw : DataW.weights Try.prog 61 (.slice (elems.map (·.1)) (rest.map (·.1))) = ((elems.map (·.1)).length + (rest.map (·.1)).length) * Try.prog.bytesOf 63 :: (DataW.weightsAll Try.prog 63 (elems.map (·.1)) ++ DataW.weightsAll Try.prog 63 (rest.map (·.1))) := by
    conv => lhs; unfold DataW.weights
    rw [Try.underlying61]
  have hwt2 : ∀ m ∈ DataW.weights Try.prog 61 (.slice (elems.map (·.1)) (rest.map (·.1))), m ≤ 140737488351232 := hwt
  rw [hw] at hwt2
  clear hw hwt
  have hcap : cap * 56 ≤ 140737488351232 := by
    have h1 := hwt2 (((elems.map (·.1)).length + (rest.map (·.1)).length) * Try.prog.bytesOf 63) (List.mem_cons_self ..)
    rw [hby, List.length_map, List.length_map, (hsp (hspare _)).1] at h1
    rwa [show elems.length + (cap - elems.length) = cap by omega] at h1
  have hall : ∀ i, i < elems.length → ∃ y : Itm, ∃ cs' : List Value, cs'.length = 4 ∧ (∀ j, j < 4 → w.cell? ((a.add (i * 4)).add j) = cs'[j]?) ∧ RIt n B w cs' y := by
    intro i hi
    have h1 := hel i hi
    rw [List.getElem?_eq_getElem hi] at h1
    obtain ⟨cs', h2, h3⟩ := Option.bind_eq_some_iff.1 h1
    obtain ⟨_, h4, h5⟩ := World.cells?_some h2
    cases n with
    | zero => simp [DataW.trod] at h3
    | succ n =>
      obtain ⟨y, hy⟩ := item_of_trod (B := B) h3 (fun p hp' => hp p (List.mem_append_right _ (List.mem_flatMap.2 ⟨elems[i], List.mem_append_left _ (List.getElem_mem hi), hp'⟩)))
        (fun m hm' => hwt2 m (List.mem_cons_of_mem _ (List.mem_append_left _ (weights_elem (List.mem_map.2 ⟨elems[i], List.getElem_mem hi, rfl⟩) m hm'))))
        (fun h q hq => ih n (by omega) h q hq)
      refine ⟨y, cs', h4, h5, ?_⟩
      have mono : ∀ {d : Nat} {cs : List Value} {x : Itm}, RIt d B w cs x → RIt (d + 1) B w cs x := by
        intro d
        induction d with
        | zero => intro cs x h; exact h.elim
        | succ d ihd =>
          intro cs x h
          obtain ⟨k, nn, s, l⟩ := x
          obtain ⟨ao, c, q1, q2, q3, q4, q5, q6⟩ := h
          exact ⟨ao, c, q1, q2, q3, q4, q5, q6.imp (Below.refl _ _) (Nat.le_refl _) (fun cs x _ h => ihd h)⟩
      exact mono hy
  obtain ⟨xs, hxl, hxx⟩ := list_of_all hall
  rw [← hxl] at hl ⊢
  refine ⟨some a, cap, xs, rfl, ⟨hl, hm, by simp, fun hne => ?_⟩, by omega⟩
  have hpos : 0 < xs.length := List.length_pos_iff.2 hne
  have hspot : a.spot = none := by
    obtain ⟨cs', h1, h2, _⟩ := hxx 0 hpos
    have h3 := h2 0 (by omega)
    rw [List.getElem?_eq_getElem (by omega)] at h3
    have : ((a.add (0 * 4)).add 0) = a := by simp [Addr.add]
    rw [this] at h3
    exact World.cell?_spot h3
  obtain ⟨b, off, spot⟩ := a
  simp only at hspot
  subst hspot
  refine ⟨b, off, rfl, ?_, fun i hi => ?_⟩
  · have hmz : 0 < (elems.length + rest.length) * 4 := by omega
    exact hp (.cell b off) (List.mem_append_left _ (by
      unfold MemPlace.row
      exact List.mem_map.2 ⟨0, List.mem_range.2 hmz, by simp⟩))
  · obtain ⟨cs', h1, h2, h3⟩ := hxx i hi
    refine ⟨cs', h1, fun j hj => ?_, h3⟩
    rw [← h2 j hj, Deep.add_add]
    congr 1
    unfold Addr.add
    split <;> simp_all
end
end Go.Proofs.Ytjgiphoolfhlmaa
