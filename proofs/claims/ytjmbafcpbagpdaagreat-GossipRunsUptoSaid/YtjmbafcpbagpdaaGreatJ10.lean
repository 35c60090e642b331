/- Gossip: the plain model. -/
import Derived.Test.YtjmbafcpbagpdaaGreatPf
import Derived.Test.YtjmbafcpbagpdaaGreatTyGraph
import Derived.Test.YtjmbafcpbagpdaaGreatPi
namespace Go.Proofs.YtjmbafcpbagpdaaGreat
open Go.RowKit Go.Shelf Go.Maps
set_option linter.unusedVariables false
set_option linter.unusedSimpArgs false

abbrev CF := TStamp → Int
def passF (c : CF) (p : TStamp × Int) : Prop := wrap64 (c p.1 + p.2) ≤ 4611686018427387904 ∧ -4611686018427387904 ≤ wrap64 (c p.1 + p.2)
instance (c : CF) (p : TStamp × Int) : Decidable (passF c p) := by unfold passF; infer_instance
/-- What Update answers, out of the counts as a function. -/
def updF (ops : List TOp) (c : CF) (l : List TCount) : Int :=
  if l.all (okC ops) = false then 1 else if ∀ p ∈ nxL l, passF c p then 0 else 14
theorem updF_cs (ops : List TOp) (cs : List (TStamp × Int)) (l : List TCount) : updE ops cs l = updF ops (cntC cs) l := by
  unfold updE updF passC passF
  rfl
def addF (c : CF) (l : List TCount) : CF := fun s => wrap64 (c s + totC l s)
def nextF (ops : List TOp) (c : CF) (l : List TCount) : CF := if updF ops c l = 0 then addF c l else c
theorem updF_ok {ops : List TOp} {c : CF} {l : List TCount} (h : updF ops c l = 0) : l.all (okC ops) = true := by
  unfold updF at h
  by_cases h1 : l.all (okC ops) = false
  · rw [if_pos h1] at h; simp at h
  · simpa using h1
noncomputable def cld (ops : List TOp) (a b : TStamp) : Bool := couldS ops a.fLoc a.fT.fEpoch a.fT.fRound b.fLoc b.fT.fEpoch b.fT.fRound
noncomputable def standB (ops : List TOp) (c : CF) (es : List (TStamp × Int)) (p : TStamp × Int) : Bool :=
  !(decide (p.2 < 0) && decide (c p.1 < wrap64 (-p.2))) && (decide (p.2 ≤ 0) || es.any fun q => decide (q.2 < 0) && cld ops q.1 p.1)
/-- Does a list stand? -/
noncomputable def standsF (ops : List TOp) (c : CF) (l : List TCount) : Bool := (nxL l).all (standB ops c (nxL l))

/-- A gossip: how many workers; the counts of the truth (0) and of the views; what is on its way. -/
structure GM where
  n : Nat
  c : Nat → CF
  wy : Nat → List (List TCount)
noncomputable def doE (ops : List TOp) (m : GM) (k : Int) (l : List TCount) : Int :=
  if ¬ (0 ≤ k ∧ k < m.n) then 1 else if l.all (okC ops) = false then 1 else if standsF ops (m.c 0) l = false then 9
  else if ∃ j, j < m.n ∧ 4096 ≤ (m.wy (k.toNat * 8 + j)).length then 2 else if updF ops (m.c 0) l ≠ 0 then 1 else 0
def GM.told (m : GM) (k : Nat) (l : List TCount) : GM :=
  ⟨m.n, fun i => if i = 0 then addF (m.c 0) l else m.c i, fun i => if k * 8 ≤ i ∧ i < k * 8 + m.n then m.wy i ++ [l] else m.wy i⟩
noncomputable def doM (ops : List TOp) (m : GM) (k : Int) (l : List TCount) : GM := if doE ops m k l = 0 then m.told k.toNat l else m
def dlvE (m : GM) (a b : Int) : Int := if ¬ ((0 ≤ a ∧ a < m.n) ∧ (0 ≤ b ∧ b < m.n)) then 1 else if m.wy (a.toNat * 8 + b.toNat) = [] then 7 else 0
def dlvM (ops : List TOp) (m : GM) (a b : Int) : GM :=
  if dlvE m a b = 0 then ⟨m.n, fun i => if i = b.toNat + 1 then nextF ops (m.c i) ((m.wy (a.toNat * 8 + b.toNat)).headD []) else m.c i, fun i => if i = a.toNat * 8 + b.toNat then (m.wy i).tail else m.wy i⟩ else m
def waitN (m : GM) (a b : Int) : Nat := if (0 ≤ a ∧ a < m.n) ∧ (0 ≤ b ∧ b < m.n) then (m.wy (a.toNat * 8 + b.toNat)).length else 0

end Go.Proofs.YtjmbafcpbagpdaaGreat

/- Gossip: rows of values that lie at an offset in their block: one appended, the first taken off; what lies in memory of a gossip. -/
namespace Go
open Go.RowKit
section
variable {P : Program} (w : World)
theorem run_append_room_at (t ty e : TypeId) (i : TypeInfo) (ht : P.underlying t = some (.slice e)) (hi : P.info? e = some i)
    (g k sLen sCap : Nat) (cur : Array Value) (hg : w.heap[g]? = some (.cells cur e (0, 0)))
    (a : Addr) (m c : Nat) (news : List Value) (hl : news.length = m * i.size) (hnews : ∀ j u, news[j]? = some u → w.cell? (a.add j) = some u) (h1 : ∀ u ∈ news, u.oneCell' = true)
    (hroom : sLen + m ≤ sCap) (hfit : k + sLen * i.size + news.length ≤ cur.size) :
    (Builtin.append_ #[t, t] ty #[.slice (some ⟨g, k, none⟩) sLen sCap, .slice (some a) m c]).run P w =
      .ok (.slice (some ⟨g, k, none⟩) (sLen + m) sCap) (w.setRow g (cur.toList.take (k + sLen * i.size) ++ news ++ cur.toList.drop (k + sLen * i.size + news.length)).toArray) := by
  have hf := run_firstCells_some (P := P) w i.size m a m c news hl hnews
  have hst := run_storeCells_at P g (k + sLen * i.size) e news 0 cur w hg (by simpa using hfit) h1
  simp only [Nat.add_zero] at hst
  simp [Builtin.append_, run_underlying ht, sizeOf, typeInfo, hi, Builtin.lenOf, hroom, hf, Addr.add_lit, hst]
end

/-- The slice v holds the values us, of one cell each; it may lie behind the start of its block. -/
def OffV (w : World) (base : Nat) (e : TypeId) (v : Value) (us : List Value) : Prop :=
  (v = .slice none 0 0 ∧ us = []) ∨ ∃ g k cap cells, v = .slice (some ⟨g, k, none⟩) us.length cap ∧ Blk w g cells e ∧ us.length ≤ cap ∧ cap ≤ maxLen ∧ k + cap ≤ cells.size ∧ base ≤ g ∧ ∀ j u, us[j]? = some u → cells[k + j]? = some u
namespace OffV
variable {w w' : World} {base : Nat} {e : TypeId} {v : Value} {us : List Value}
theorem nil (w : World) (base : Nat) (e : TypeId) : OffV w base e (.slice none 0 0) [] := .inl ⟨rfl, rfl⟩
theorem chg {S : Nat → Prop} (h : OffV w base e v us) (hc : Chg S w w') (hS : ∀ g, v.ownBlock = some g → ¬ S g) : OffV w' base e v us := by
  rcases h with h | ⟨g, k, cap, cells, rfl, h2, h3, h4, h5, h6, h7⟩
  · exact .inl h
  · exact .inr ⟨g, k, cap, cells, rfl, h2.chg hc (hS g rfl), h3, h4, h5, h6, h7⟩
theorem lt (h : OffV w base e v us) : ∀ g, v.ownBlock = some g → base ≤ g ∧ g < w.heap.size := by
  rintro g hg
  rcases h with ⟨rfl, _⟩ | ⟨g', k, cap, cells, rfl, h2, h3, h4, h5, h6, h7⟩
  · simp [Value.ownBlock] at hg
  · simp [Value.ownBlock] at hg
    subst hg
    exact ⟨h6, h2.lt⟩
theorem ne_blk {b : Nat} {cs : Array Value} {T : TypeId} (h : OffV w base e v us) (hb : Blk w b cs T) (hT : e ≠ T) : v.ownBlock ≠ some b := by
  rcases h with ⟨rfl, _⟩ | ⟨g', k, cap, cells, rfl, h2, h3, h4, h5, h6, h7⟩
  · simp [Value.ownBlock]
  · intro he
    simp only [Value.ownBlock, Option.some.injEq] at he
    subst he
    unfold Blk at h2 hb
    rw [h2] at hb
    simp only [Option.some.injEq, Obj.cells.injEq] at hb
    exact hT hb.2.1
theorem slice (h : OffV w base e v us) : ∃ ao cap, v = .slice ao us.length cap ∧ us.length ≤ cap ∧ cap ≤ maxLen := by
  rcases h with ⟨rfl, rfl⟩ | ⟨g', k, cap, cells, rfl, h2, h3, h4, h5, h6, h7⟩
  · exact ⟨none, 0, rfl, Nat.le_refl _, Nat.zero_le _⟩
  · exact ⟨_, cap, rfl, h3, h4⟩
/-- The first is there, and what is behind it. -/
theorem first {u : Value} {r : List Value} (h : OffV w base e v (u :: r)) : ∃ g k cap, v = .slice (some ⟨g, k, none⟩) (r.length + 1) cap ∧ r.length + 1 ≤ cap ∧ cap ≤ maxLen ∧ base ≤ g ∧ g < w.heap.size ∧ w.cell? ⟨g, k, none⟩ = some u ∧
    ∀ x : Option Addr, x = (if cap = 1 then some ⟨g, k, none⟩ else some ⟨g, k + 1, none⟩) → OffV w base e (.slice x r.length (cap - 1)) r := by
  rcases h with ⟨rfl, h⟩ | ⟨g, k, cap, cells, rfl, h2, h3, h4, h5, h6, h7⟩
  · cases h
  · refine ⟨g, k, cap, by rw [List.length_cons], by simpa using h3, h4, h6, h2.lt, h2.cellAt (h7 0 u rfl), fun x hx => ?_⟩
    rw [List.length_cons] at h3
    by_cases hc : cap = 1
    · rw [if_pos hc] at hx
      have hr : r = [] := List.length_eq_zero_iff.1 (by omega)
      subst hr
      exact .inr ⟨g, k, cap - 1, cells, by rw [hx], h2, Nat.zero_le _, by omega, by omega, h6, fun j u' hj => by simp at hj⟩
    · rw [if_neg hc] at hx
      refine .inr ⟨g, k + 1, cap - 1, cells, by rw [hx], h2, by omega, by omega, by omega, h6, fun j u' hj => ?_⟩
      rw [show k + 1 + j = k + (j + 1) by omega]
      exact h7 (j + 1) u' (by simpa using hj)
theorem alloc (h : OffV w base e v us) (o : Obj) : OffV (w.alloc o) base e v us := h.chg ((Chg.refl (fun _ => False) w).alloc o) (fun _ _ h => h)
end OffV
section
variable {P : Program} (w : World)
theorem add_at (g k j : Nat) : (⟨g, k, none⟩ : Addr).add j = ⟨g, k + j, none⟩ := by unfold Addr.add; split <;> simp_all
theorem run_append_off (base : Nat) (t ty e : TypeId) (i : TypeInfo) (z : Value) (bytes : Nat) (ht : P.underlying t = some (.slice e)) (hi : P.info? e = some i) (hz : i.zero = some z)
    (hsize : i.size = 1) (hby : i.bytes = bytes) (hzs : z.cells.size = 1) {v : Value} {us : List Value} (h : OffV w base e v us) (a : Addr) (c : Nat) (u : Value) (hu : w.cell? a = some u) (h1 : u.oneCell' = true)
    (h63 : us.length + 1 ≤ maxLen) (hbytes : (us.length + 1) * bytes ≤ 140737488355328) (hbase : base ≤ w.heap.size) :
    ∃ g k cap w', (Builtin.append_ #[t, t] ty #[v, .slice (some a) 1 c]).run P w = .ok (.slice (some ⟨g, k, none⟩) (us.length + 1) cap) w' ∧ OffV w' base e (.slice (some ⟨g, k, none⟩) (us.length + 1) cap) (us ++ [u]) ∧ w.grownBy w' v.ownBlock ∧ (v.ownBlock = some g ∨ g = w.heap.size) := by
  subst hby
  have hsmall : us.length + 1 ≤ 9223372036854775807 := by simp only [maxLen] at h63; omega
  have hnews : ∀ j x, ([u] : List Value)[j]? = some x → w.cell? (a.add j) = some x := fun j x hx => by
    cases j with
    | zero =>
      simp at hx
      subst hx
      rw [show a.add 0 = a by unfold Addr.add; cases a with | mk b o s => cases s <;> simp]
      exact hu
    | succ j => simp at hx
  have h1' : ∀ x ∈ ([u] : List Value), x.oneCell' = true := fun x hx => by
    rw [List.mem_singleton.1 hx]; exact h1
  have hnew : ∀ (olds : List Value) (old : Nat), olds.length = us.length → olds = us → 
      OffV (w.drew.alloc (.cells (olds.toArray ++ ([u] : List Value).toArray ++ Builtin.zeroCells z.cells (grownCap w (us.length + 1) old e - (us.length + 1))) e)) base e (.slice (some ⟨w.heap.size, 0, none⟩) (us.length + 1) (grownCap w (us.length + 1) old e)) (us ++ [u]) ∧
      (∀ row, w.grownBy (w.drew.alloc (.cells (olds.toArray ++ ([u] : List Value).toArray ++ Builtin.zeroCells z.cells (grownCap w (us.length + 1) old e - (us.length + 1))) e)) row) := by
    rintro olds old _ rfl
    have hge := grownCap_ge w (olds.length + 1) old e
    have hcm := grownCap_le_maxLen w (olds.length + 1) old e h63
    refine ⟨.inr ⟨w.heap.size, 0, _, _, by rw [List.length_append]; rfl, Blk.new w.drew _ e, by rw [List.length_append]; exact hge, hcm, ?_, hbase, fun j x hx => ?_⟩, fun row => ⟨rfl, rfl, rfl, by simp, fun k hk _ => Below.heap_alloc w.drew _ k hk⟩⟩
    · simp only [Array.size_append, List.size_toArray, size_zeroCells, hzs, List.length_singleton]
      omega
    · rw [Nat.zero_add]
      have hj : j < (olds ++ [u]).length := (List.getElem?_eq_some_iff.1 hx).1
      rw [Array.getElem?_append_left (by simpa using hj)]
      simpa using hx
  rcases h with ⟨rfl, rfl⟩ | ⟨g, k, cap, cells, rfl, h2, h3, h4, h5, h6, h7⟩
  · have hr := run_append_nil (P := P) w t ty e i z ht hi hz a 1 c [u] (by simp [hsize]) hnews (by omega) (by omega) (by simp at hbytes; omega)
    obtain ⟨n1, n2⟩ := hnew [] 0 rfl rfl
    simp only [List.length_nil, Nat.zero_add, List.nil_append, Array.empty_append] at n1 n2 ⊢
    exact ⟨w.heap.size, 0, _, _, hr, n1, n2 _, .inr rfl⟩
  · by_cases hroom : us.length + 1 ≤ cap
    · have hr := run_append_room_at (P := P) w t ty e i ht hi g k us.length cap cells h2 a 1 c [u] (by simp [hsize]) hnews h1' hroom (by rw [hsize]; simp; omega)
      rw [hsize] at hr
      refine ⟨g, k, cap, _, hr, .inr ⟨g, k, cap, _, by rw [List.length_append]; rfl, setRow_heap w g cells _ e _ h2, by rw [List.length_append]; exact hroom, h4, ?_, h6, fun j x hx => ?_⟩, ⟨rfl, rfl, rfl, by simp, fun b _ hb => setRow_other w g b _ (fun e => hb (by simp [Value.ownBlock, e]))⟩, .inl rfl⟩
      · simp
        omega
      · have hj : j < (us ++ [u]).length := (List.getElem?_eq_some_iff.1 hx).1
        rw [List.length_append, List.length_singleton] at hj
        simp only [List.getElem?_toArray, Nat.mul_one]
        by_cases hju : j < us.length
        · rw [List.getElem?_append_left (by simp; omega), List.getElem?_append_left (by simp; omega), List.getElem?_take, if_pos (by omega)]
          rw [List.getElem?_append_left hju] at hx
          have := h7 j x hx
          simpa using this
        · obtain rfl : j = us.length := by omega
          have hk : k + us.length ≤ cells.toList.length := by simp; omega
          rw [List.getElem?_append_left (by simp; omega), List.getElem?_append_right (by rw [List.length_take, Array.length_toList]; exact Nat.min_le_left _ _)]
          rw [List.getElem?_append_right (Nat.le_refl _)] at hx
          simp only [List.length_take, Array.length_toList] at *
          rw [show k + us.length - min (k + us.length) cells.size = us.length - us.length by omega]
          exact hx
    · have holds : ∀ j x, us[j]? = some x → w.cell? ((⟨g, k, none⟩ : Addr).add j) = some x := fun j x hx => by rw [add_at]; exact h2.cellAt (h7 j x hx)
      have hr := run_append_grow (P := P) w t ty e i z ht hi hz ⟨g, k, none⟩ us.length cap us (by simp [hsize]) holds a 1 c [u] (by simp [hsize]) hnews (by omega) (by omega) (growslice_fits (by omega) hbytes)
      obtain ⟨n1, n2⟩ := hnew us cap rfl rfl
      exact ⟨w.heap.size, 0, _, _, hr, n1, n2 _, .inr rfl⟩
end
section
variable {P : Program}
/-- append of one value onto such a row, at an operation of a drawn region. -/
theorem step_off {w : World} {ops : Array Oper} {o : Oper} {a : Act} {K : Act → World → Prop} {Q : Exit → Act → World → Prop} {E : Prop} (hgd : o.guard = none) (s x : Operand) (t : TypeId)
    (ho : o.op = .call { callee := .builtin .append, args := #[s, x], argTypes := #[t, t] })
    {base : Nat} {e : TypeId} {i : TypeInfo} {z : Value} {bytes : Nat} (ht : P.underlying t = some (.slice e)) (hi : P.info? e = some i) (hz : i.zero = some z)
    (hsize : i.size = 1) (hby : i.bytes = bytes) (hzs : z.cells.size = 1) {v : Value} {us : List Value} (hs : a.eval s = v) (hv : OffV w base e v us) (ad : Addr) (c : Nat) (u : Value) (hx : a.eval x = .slice (some ad) 1 c) (hu : w.cell? ad = some u) (h1 : u.oneCell' = true)
    (h63 : us.length + 1 ≤ maxLen) (hbytes : (us.length + 1) * bytes ≤ 140737488355328) (hbase : base ≤ w.heap.size)
    (h : ∀ g k cap w', OffV w' base e (.slice (some ⟨g, k, none⟩) (us.length + 1) cap) (us ++ [u]) → w.grownBy w' v.ownBlock → (v.ownBlock = some g ∨ g = w.heap.size) → K (a.put o.dst (.slice (some ⟨g, k, none⟩) (us.length + 1) cap)) w') :
    if Region.wanted o (yielded ops a.tmps) = true then Oper.wp P o a w K Q else E := by
  have hw : Region.wanted o (yielded ops a.tmps) = true := by simp [Region.wanted, hgd]
  rw [if_pos hw]
  obtain ⟨g, k, cap, w', hr, h2, h3, h4⟩ := run_append_off (P := P) w base t o.type e i z bytes ht hi hz hsize hby hzs hv ad c u hu h1 h63 hbytes hbase
  unfold Oper.wp execOp
  simp only [ho, resolve, invoke, builtin, Sem.run_bind, Sem.run_pure, Result.andThen_ok, List.map_toArray, List.map_cons, List.map_nil, hs, hx, hr]
  exact h g k cap w' h2 h3 h4
end
end Go

/- Gossip: the plain model, and a gossip as it lies in memory. -/
namespace Go.Proofs.YtjmbafcpbagpdaaGreat
open Go.RowKit Go.Shelf Go.Maps
set_option linter.unusedVariables false
set_option linter.unusedSimpArgs false

theorem chg_cutJ {B : Nat} {S : Nat → Prop} {w0 w w' : World} (h : Below B w0 w) (hB : w0.heap.size ≤ B) (hc : Chg S w w') : ∃ v, v.heap.size = w0.heap.size ∧ Chg S w0 v ∧ Below w0.heap.size v w' := by
  have hs : w0.heap.size ≤ w'.heap.size := Nat.le_trans h.size hc.size
  refine ⟨{ w' with heap := w'.heap.extract 0 w0.heap.size }, by simp; omega, ⟨hc.os.trans h.os, hc.tape.trans h.tape, hc.output.trans h.output, by simp; omega, fun i hi hn => ?_⟩, ⟨rfl, rfl, rfl, by simp; omega, fun i hi => ?_⟩⟩
  · have h1 := h.block i (by omega)
    have h2 := hc.block i (Nat.lt_of_lt_of_le hi h.size) hn
    rw [← h1, ← h2]
    simp only [Array.getElem?_extract]
    rw [if_pos (by omega)]
    simp
  · simp only [Array.getElem?_extract]
    rw [if_pos (by omega)]
    simp
/-- A tracker with these counts, N entries at most. -/
def TrF (w : World) (base tb : Nat) (x : TrX) (ops : List TOp) (c : CF) (N : Nat) : Prop := ∃ cs, Tr w base tb x ops cs ∧ cntC cs = c ∧ cs.length ≤ N
/-- What lies outside of a tracker changes. -/
theorem Tr.chgR {w w' : World} {base tb U : Nat} {x : TrX} {ops : List TOp} {cs : List (TStamp × Int)} (h : Tr w base tb x ops cs) {S : Nat → Prop} (hc : Chg S w w') (hS : ∀ k, S k → ¬ (base ≤ k ∧ k < U)) (ht : tb < U) (hm : x.mb < U) : Tr w' base tb x ops cs := by
  obtain ⟨w0, h1, h2, h3, h4, h5⟩ := h.held
  obtain ⟨v, hv1, hv2, hv3⟩ := chg_cutJ h5 (Nat.le_refl _) hc
  have hn : ∀ b, base ≤ b → b < U → ¬ S b := fun b hb hu hs => hS b hs ⟨hb, hu⟩
  have hc2 : Chg (fun k => S k ∧ k < w0.heap.size) w0 v := ⟨hv2.os, hv2.tape, hv2.output, hv2.size, fun k hk hne => hv2.block k hk (fun hs => hne ⟨hs, hk⟩)⟩
  have hn2 : ∀ b, base ≤ b → ¬ (S b ∧ b < w0.heap.size) := fun b hb hs => hn b hb (by omega) hs.1
  refine ⟨h.blk.chg hc (hn _ h.btb ht), ⟨v, h1.chg hc2 hn2, ⟨h2.hdr.chg hc2 (hn2 _ h2.hbase), h2.len, h2.hbase, fun j hj => ?_, h2.nodup⟩, by omega, by omega, by rw [← hv1] at hv3; exact hv3⟩, h.opsE, h.map.chg hc (hn _ h.bmb hm), h.nz, h.good, h.ok, h.btb, h.bmb⟩
  obtain ⟨e1, e2, e3⟩ := h2.rows j hj
  exact ⟨e1, e2, e3.chg hc2 (hn2 _ e1)⟩
theorem TrF.chgR {w w' : World} {base tb U : Nat} {x : TrX} {ops : List TOp} {c : CF} {N : Nat} (h : TrF w base tb x ops c N) {S : Nat → Prop} (hc : Chg S w w') (hS : ∀ k, S k → ¬ (base ≤ k ∧ k < U)) (ht : tb < U) (hm : x.mb < U) : TrF w' base tb x ops c N := by
  obtain ⟨cs, h1, h2, h3⟩ := h
  exact ⟨cs, h1.chgR hc hS ht hm, h2, h3⟩

def mkKJ (c : TCount) : Value := .agg #[.int .i64 c.fS.fLoc, .int .i64 c.fS.fT.fEpoch, .int .i64 c.fS.fT.fRound, .int .i64 c.fN]
def wfK (c : TCount) : Prop := wfS c.fS ∧ (Lit.int .i64 c.fN).wf = true
/-- A list of counts in memory of one's own, in blocks of X. -/
structure LiK (w : World) (U : Nat) (X : Nat → Prop) (v : Value) (l : List TCount) (M : Nat) : Prop where
  own : OwnL encK w U 67 4 v l
  inX : ∀ b, v.ownBlock = some b → X b
  wf : ∀ c ∈ l, wfK c
  len : l.length ≤ M
namespace LiK
variable {w w' : World} {U M : Nat} {X : Nat → Prop} {v : Value} {l : List TCount}
theorem chg {S : Nat → Prop} (h : LiK w U X v l M) (hc : Chg S w w') (hS : ∀ b, v.ownBlock = some b → ¬ S b) : LiK w' U X v l M := ⟨h.own.chg hc hS, h.inX, h.wf, h.len⟩
theorem sub {Y : Nat → Prop} (h : LiK w U X v l M) (hx : ∀ k, X k → Y k) : LiK w U Y v l M := ⟨h.own, fun b hb => hx b (h.inX b hb), h.wf, h.len⟩
theorem sla (h : LiK w U X v l M) : ∃ ao cap, v = .slice ao l.length cap ∧ SlA w.heap.size 4 (RCount w.heap.size) w ao cap l :=
  h.own.sla encK_len (fun c hc => by
    obtain ⟨⟨h1, h2, h3⟩, h4⟩ := h.wf c hc
    exact ⟨rfl, h1, h2, h3, h4⟩)
end LiK
/-- A row of such lists; it may lie behind the start of its block. -/
def WayV (w : World) (U : Nat) (X : Nat → Prop) (v : Value) (Ls : List (List TCount)) (M : Nat) : Prop :=
  (∀ b, v.ownBlock = some b → X b) ∧ ∃ ps : List (Value × List TCount), OffV w U 25 v (ps.map Prod.fst) ∧ ps.map Prod.snd = Ls ∧ ∀ q ∈ ps, LiK w U X q.1 q.2 M
namespace WayV
variable {w w' : World} {U M : Nat} {X : Nat → Prop} {v : Value} {Ls : List (List TCount)}
theorem nil (w : World) (U : Nat) (X : Nat → Prop) (M : Nat) : WayV w U X (.slice none 0 0) [] M := ⟨fun b hb => by simp [Value.ownBlock] at hb, [], OffV.nil _ _ _, rfl, by simp⟩
theorem chg {S : Nat → Prop} (h : WayV w U X v Ls M) (hc : Chg S w w') (hS : ∀ b, X b → ¬ S b) : WayV w' U X v Ls M := by
  obtain ⟨h0, ps, h1, h2, h3⟩ := h
  exact ⟨h0, ps, h1.chg hc (fun g hg => hS g (h0 g hg)), h2, fun q hq => (h3 q hq).chg hc (fun b hb => hS b ((h3 q hq).inX b hb))⟩
/-- Another row turns. -/
theorem chg2 {S : Nat → Prop} (h : WayV w U X v Ls M) (hc : Chg S w w') (hv : ∀ b, v.ownBlock = some b → ¬ S b) (hS : ∀ b, S b → ¬ ∃ cells, Blk w b cells 67) : WayV w' U X v Ls M := by
  obtain ⟨h0, ps, h1, h2, h3⟩ := h
  refine ⟨h0, ps, h1.chg hc hv, h2, fun q hq => (h3 q hq).chg hc (fun b hb hs => hS b hs ?_)⟩
  rcases (h3 q hq).own.form with ⟨e, _⟩ | ⟨g, cap, cells, e, h7, _⟩
  · rw [e] at hb; simp [Value.ownBlock] at hb
  · rw [e] at hb
    simp only [Value.ownBlock, Option.some.injEq] at hb
    subst hb
    exact ⟨_, h7⟩
theorem sub {Y : Nat → Prop} (h : WayV w U X v Ls M) (hx : ∀ k, X k → Y k) : WayV w U Y v Ls M := by
  obtain ⟨h0, ps, h1, h2, h3⟩ := h
  exact ⟨fun b hb => hx b (h0 b hb), ps, h1, h2, fun q hq => (h3 q hq).sub hx⟩
theorem slice (h : WayV w U X v Ls M) : ∃ ao cap, v = .slice ao Ls.length cap ∧ Ls.length ≤ cap ∧ cap ≤ maxLen := by
  obtain ⟨_, ps, h1, h2, _⟩ := h
  obtain ⟨ao, cap, e, h3, h4⟩ := h1.slice
  rw [← h2, List.length_map]
  rw [List.length_map] at e h3
  exact ⟨ao, cap, e, h3, h4⟩
theorem lt (h : WayV w U X v Ls M) : ∀ g, v.ownBlock = some g → U ≤ g ∧ g < w.heap.size := by
  obtain ⟨_, ps, h1, _⟩ := h
  exact h1.lt
end WayV

/-- Where a tracker's memory lies. -/
structure TrP where
  base : Nat
  tb : Nat
  U : Nat
  x : TrX
/-- Where a gossip's parts lie. -/
structure GP where
  gv : Value
  gops : List TOp
  gB : Nat
  gU : Nat
  tp : Nat → TrP
  vb : Nat
  vc : Nat
def TrI (w : World) (t : TrP) (ops : List TOp) (c : CF) (N : Nat) : Prop := TrF w t.base t.tb t.x ops c N ∧ t.tb < t.U ∧ t.x.mb < t.U
def GrI (w : World) (gv : Value) (gB gU : Nat) (ops : List TOp) : Prop := ∃ w0 ps, OpsR gB w0 gv ps ∧ ps.map (·.x) = ops ∧ w0.heap.size ≤ gU ∧ Below w0.heap.size w0 w
theorem GrI.chg {w w' : World} {gv : Value} {gB gU : Nat} {ops : List TOp} {S : Nat → Prop} (h : GrI w gv gB gU ops) (hc : Chg S w w') (hS : ∀ k, S k → ¬ (gB ≤ k ∧ k < gU)) : GrI w' gv gB gU ops := by
  obtain ⟨w0, ps, h1, h2, h3, h5⟩ := h
  obtain ⟨v, hv1, hv2, hv3⟩ := chg_cutJ h5 (Nat.le_refl _) hc
  have hc2 : Chg (fun k => S k ∧ k < w0.heap.size) w0 v := ⟨hv2.os, hv2.tape, hv2.output, hv2.size, fun k hk hne => hv2.block k hk (fun hs => hne ⟨hs, hk⟩)⟩
  exact ⟨v, ps, h1.chg hc2 (fun b hb hs => hS b hs.1 ⟨hb, by omega⟩), h2, by omega, by rw [← hv1] at hv3; exact hv3⟩
theorem GrI.sla {w : World} {gv : Value} {gB gU : Nat} {ops : List TOp} (h : GrI w gv gB gU ops) : ∃ ao cap, gv = .slice ao ops.length cap ∧ SlA w.heap.size 7 (ROp w.heap.size) w ao cap ops := by
  obtain ⟨w0, ps, h1, h2, h3, h5⟩ := h
  obtain ⟨ao, cap, e, h4⟩ := (h1.below h5 (Nat.le_refl _)).sla
  rw [h2] at h4
  exact ⟨ao, cap, by rw [e, ← h2, List.length_map], h4⟩
def gcells (p : GP) (n : Nat) (ws : List Value) : Array Value := (p.gv :: .pointer (some ⟨(p.tp 0).tb, 0, none⟩) :: .slice (some ⟨p.vb, 0, none⟩) n p.vc :: ws).toArray
/-- The ways' values. -/
structure Ways (w : World) (U : Nat) (X : Nat → Prop) (ws : List Value) (wy : Nat → List (List TCount)) (M : Nat) : Prop where
  len : ws.length = 64
  at' : ∀ i v, ws[i]? = some v → WayV w U X v (wy i) M
  ne : ∀ (i j : Nat) (v u : Value) (g : Nat), i ≠ j → ws[i]? = some v → ws[j]? = some u → v.ownBlock = some g → u.ownBlock ≠ some g
/-- Block gb is a gossip. -/
structure Gos (w : World) (A U : Nat) (X : Nat → Prop) (gb : Nat) (p : GP) (ops : List TOp) (m : GM) (N M : Nat) : Prop where
  n1 : 1 ≤ m.n
  n8 : m.n ≤ 8
  blk : ∃ ws, Blk w gb (gcells p m.n ws) 83 ∧ Ways w U X ws m.wy M
  vws : ∃ cs : Array Value, Blk w p.vb cs 61 ∧ m.n ≤ p.vc ∧ p.vc ≤ maxLen ∧ ∀ j, j < m.n → cs[j]? = some (.pointer (some ⟨(p.tp (j + 1)).tb, 0, none⟩))
  gr : GrI w p.gv p.gB p.gU p.gops
  trs : ∀ i, i ≤ m.n → TrI w (p.tp i) ops (m.c i) N
  dis : ∀ i j, i < j → j ≤ m.n → (p.tp i).U ≤ (p.tp j).base
  dg : ∀ i, i ≤ m.n → ¬ ((p.tp i).base ≤ gb ∧ gb < (p.tp i).U)
  dv : ∀ i, i ≤ m.n → ¬ ((p.tp i).base ≤ p.vb ∧ p.vb < (p.tp i).U)
  dgr : ¬ (p.gB ≤ gb ∧ gb < p.gU) ∧ ¬ (p.gB ≤ p.vb ∧ p.vb < p.gU) ∧ gb ≠ p.vb
  dtr : ∀ i, i ≤ m.n → (p.tp i).U ≤ p.gB
  inT : ∀ i, i ≤ m.n → A ≤ (p.tp i).base ∧ (p.tp i).U ≤ U
  inG : (A ≤ gb ∧ gb < U) ∧ (A ≤ p.vb ∧ p.vb < U) ∧ A ≤ p.gB ∧ p.gU ≤ U
  xU : ∀ k, X k → U ≤ k ∧ k < w.heap.size
  uw : U ≤ w.heap.size
  ok : (gcheck ops).2 = 0
/-- What a gossip's own calls may change. -/
def Foot (A U : Nat) (X : Nat → Prop) (k : Nat) : Prop := (A ≤ k ∧ k < U) ∨ X k
namespace Gos
variable {w w' : World} {A U gb N M : Nat} {X : Nat → Prop} {p : GP} {ops : List TOp} {m : GM}
theorem chg (h : Gos w A U X gb p ops m N M) {S : Nat → Prop} (hc : Chg S w w') (hS : ∀ k, S k → ¬ Foot A U X k) : Gos w' A U X gb p ops m N M := by
  have hA : ∀ k, S k → ¬ (A ≤ k ∧ k < U) := fun k hk hs => hS k hk (.inl hs)
  have hX : ∀ k, X k → ¬ S k := fun k hk hs => hS k hs (.inr hk)
  have hs := hc.size
  obtain ⟨ws, b1, b2⟩ := h.blk
  obtain ⟨cs, v1, v2⟩ := h.vws
  obtain ⟨g1, g2, g3, g4⟩ := h.inG
  refine ⟨h.n1, h.n8, ⟨ws, b1.chg hc (fun e => hA _ e g1), ⟨b2.len, fun i v hv => (b2.at' i v hv).chg hc hX, b2.ne⟩⟩, ⟨cs, v1.chg hc (fun e => hA _ e g2), v2⟩, h.gr.chg hc (fun k hk e => hA k hk ⟨by omega, by omega⟩), fun i hi => ?_, h.dis, h.dg, h.dv, h.dgr, h.dtr, h.inT, h.inG, fun k hk => ⟨(h.xU k hk).1, by have := (h.xU k hk).2; omega⟩, by have := h.uw; omega, h.ok⟩
  obtain ⟨t1, t2, t3⟩ := h.trs i hi
  have := h.inT i hi
  exact ⟨t1.chgR hc (fun k hk e => hA k hk ⟨by omega, by omega⟩) t2 t3, t2, t3⟩
theorem below (h : Gos w A U X gb p ops m N M) (hb : Below w.heap.size w w') : Gos w' A U X gb p ops m N M :=
  h.chg (Chg.of_below hb) (fun k hk e => by
    rcases e with e | e
    · have := h.uw; omega
    · have := (h.xU k e).2; omega)
theorem foot_lt (h : Gos w A U X gb p ops m N M) {k : Nat} (hk : Foot A U X k) : k < w.heap.size := by
  rcases hk with e | e
  · have := h.uw; omega
  · exact (h.xU k e).2
end Gos
end Go.Proofs.YtjmbafcpbagpdaaGreat

/- Gossip: does a list stand? -/
namespace Go.Proofs.YtjmbafcpbagpdaaGreat
open Go.RowKit Go.Shelf Go.Maps
set_option linter.unusedVariables false
set_option linter.unusedSimpArgs false
attribute [local go_sem] mk_map

noncomputable def hitE (ops : List TOp) (y : TStamp) (e : TStamp × Value) : Bool := decide (intOf e.2 < 0) && cld ops e.1 y
theorem hitE_any (ops : List TOp) (y : TStamp) (nx : List (TStamp × Int)) : (entC nx).any (hitE ops y) = nx.any fun q => decide (q.2 < 0) && cld ops q.1 y := by
  unfold entC
  rw [List.any_map]
  rfl
theorem any_del {es : List (TStamp × Value)} {x : TStamp} {v : Value} (hn : (es.map Prod.fst).Nodup) (h : (x, v) ∈ es) (f : TStamp × Value → Bool) : es.any f = (f (x, v) || (delE es x).any f) := by
  have := (RangeL.del_perm hn h).any_eq (f := f)
  rw [this, List.any_cons]
/-- What stands reads while it goes. -/
structure StS (w wr : World) (gb tb n cap : Nat) (ao : Option Addr) (base : Nat) (x : TrX) (ops : List TOp) (cs : List (TStamp × Int)) : Prop where
  bel : Below w.heap.size w wr
  c0 : w.cell? ⟨gb, 0, none⟩ = some (.slice ao n cap)
  c1 : w.cell? ⟨gb, 1, none⟩ = some (.pointer (some ⟨tb, 0, none⟩))
  sl : SlA w.heap.size 7 (ROp w.heap.size) w ao cap ops
  tr : Tr w base tb x ops cs
namespace StS
variable {w wr w' : World} {gb tb n cap : Nat} {ao : Option Addr} {base : Nat} {x : TrX} {ops : List TOp} {cs : List (TStamp × Int)}
theorem below (h : StS w wr gb tb n cap ao base x ops cs) (hb : Below w.heap.size wr w') : StS w w' gb tb n cap ao base x ops cs := ⟨h.bel.trans hb, h.c0, h.c1, h.sl, h.tr⟩
theorem chg (h : StS w wr gb tb n cap ao base x ops cs) {S : Nat → Prop} (hc : Chg S wr w') (hS : ∀ k, S k → w.heap.size ≤ k) : StS w w' gb tb n cap ao base x ops cs := h.below (hc.below h.bel.size (fun k hk e => by have := hS k e; omega))
theorem cell0 (h : StS w wr gb tb n cap ao base x ops cs) : wr.cell? ⟨gb, 0, none⟩ = some (.slice ao n cap) := (h.bel.cell (p := ⟨gb, 0, none⟩) (World.lt_of_cell h.c0)).trans h.c0
theorem cell1 (h : StS w wr gb tb n cap ao base x ops cs) : wr.cell? ⟨gb, 1, none⟩ = some (.pointer (some ⟨tb, 0, none⟩)) := (h.bel.cell (p := ⟨gb, 1, none⟩) (World.lt_of_cell h.c1)).trans h.c1
end StS

set_option maxRecDepth 100000 in
set_option maxHeartbeats 4000000 in
theorem stands_any (l : List TCount) (la : Option Addr) (lc : Nat) {base tb gb cap : Nat} {ao : Option Addr} {x : TrX} {ops : List TOp} {cs : List (TStamp × Int)} (w : World) (hS : StS w w gb tb ops.length cap ao base x ops cs) (hl : SlA w.heap.size 4 (RCount w.heap.size) w la lc l) (hz : l.length * 32 ≤ 140737488355328) :
    Calls Tryz.prog 33 #[.pointer (some ⟨gb, 0, none⟩), .slice la l.length lc] w fun e w' => e = .returned (.bool (standsF ops (cntC cs) l)) ∧ Below w.heap.size w w' := by
  have hcnt := fun s hs W (hb : Below w.heap.size w W) => count_any s hs W (hS.tr.below hb)
  have hcld := fun la ea ra lb eb rb W (hb : Below w.heap.size w W) => could_any ops cap ao la ea ra lb eb rb w.heap.size W hb.size (imp_ops hS.sl hb)
  obtain ⟨n, hn⟩ : ∃ n, n = ops.length := ⟨_, rfl⟩
  rw [← hn] at hS hcld
  have hlen := hl.len
  obtain ⟨m, hm⟩ : ∃ m, m = l.length := ⟨_, rfl⟩
  rw [← hm] at hlen hz ⊢
  replace hn := Lib.hid hn
  replace hm := Lib.hid hm
  replace hcnt := Lib.hid hcnt
  replace hcld := Lib.hid hcld
  go_enter Tryz.func33, Tryz.ntmps33
  go_upto_region 2 with fail
  have hN : MapL Tryz.prog 59 klS wfS (w.alloc (.map #[] 0)) w.heap.size (entC (nxL (l.take 0))) := MapL.made w
  have hS0 : StS w (w.alloc (.map #[] 0)) gb tb n cap ao base x ops cs := hS.below ((Below.refl _ _).alloc (Nat.le_refl _) _)
  obtain ⟨nb, hnbe⟩ : ∃ nb, nb = w.heap.size := ⟨_, rfl⟩
  have hnb : w.heap.size ≤ nb := by omega
  rw [← hnbe] at hN ⊢
  generalize w.alloc (.map #[] 0) = w2 at hN hS0 ⊢
  clear hnbe hS
  have hkey : ∀ c ∈ l, wfS c.fS := fun c hc => by
    obtain ⟨j, hj, rfl⟩ := List.getElem_of_mem hc
    obtain ⟨b2, off2, rfl, _, _⟩ := hl.addr (by omega)
    obtain ⟨_, _, _, _, h1, h2, h3, _⟩ := RCount.at hl hj rfl
    exact ⟨h1, h2, h3⟩
  replace hkey := Lib.hid hkey
  go_wp2_with fail
  go_loopw [16] (fun x16 wr => ∃ i : Nat, i ≤ m ∧ x16 = .int .i64 i ∧ StS w wr gb tb n cap ao base x ops cs ∧ MapL Tryz.prog 59 klS wfS wr nb (entC (nxL (l.take i)))) (fun x16 _ => m - (intOf x16).toNat)
  case atStart => exact ⟨0, Nat.zero_le _, rfl, hS0, hN⟩
  case round =>
    clear hN hS0
    obtain ⟨i, him, rfl, hI, hN⟩ := hrel
    by_cases hi : i < m
    · have hbr := hI.bel
      have hix : i < l.length := by rw [← hm.out]; exact hi
      obtain ⟨b2, off2, rfl, hb2l, _⟩ := hl.addr (by omega)
      obtain ⟨c, hc⟩ : ∃ c, l[i] = c := ⟨_, rfl⟩
      obtain ⟨e0, e1, e2, e3, _⟩ := RCount.at (hl.imp hbr (Nat.le_refl _) (fun _ _ _ h => h.imp hbr (Nat.le_refl _))) hix hc
      have hcw := hkey.out c (by rw [← hc]; exact List.getElem_mem hix)
      have hsn : nxL (l.take (i + 1)) = nxC (nxL (l.take i)) c := by rw [take_snoc hix, nxL_snoc, hc]
      have hnl := nxL_len l i (by omega)
      generalize nxL (l.take i) = na at hN hsn hnl
      obtain ⟨⟨cl, ⟨ce, cr⟩⟩, cN⟩ := c
      dsimp only at e0 e1 e2 e3 hcw
      have hb2w : b2 < wr.heap.size := Nat.lt_of_lt_of_le hb2l hbr.size
      have hwr3 := hbr.size
      replace hsn := Lib.hid hsn
      clear hc
      go_upto_region 5 with fail
      refine Code.wp_world ?_
      intro w5 hw5
      have h5 : Chg (fun _ => False) wr w5 := by rw [hw5]; exact (Chg.refl _ _).alloc _
      have hA5 : Blk w5 wr.heap.size #[.int .i64 cl, .int .i64 ce, .int .i64 cr, .int .i64 cN] 67 := by rw [hw5]; exact Blk.new _ _ _
      have hI5 := hI.chg h5 (fun _ h => h.elim)
      have hN5 := hN.chg h5 (fun h => h)
      obtain ⟨z, hz0⟩ : ∃ z, z = wr.heap.size := ⟨_, rfl⟩
      rw [← hz0] at hA5 ⊢
      have s0 := hA5.cellAt (i := 0) (v := .int .i64 cl) rfl
      have s1 := hA5.cellAt (i := 1) (v := .int .i64 ce) rfl
      have s2 := hA5.cellAt (i := 2) (v := .int .i64 cr) rfl
      have s3 := hA5.cellAt (i := 3) (v := .int .i64 cN) rfl
      clear hw5 h5 e0 e1 e2 e3 hb2w hbr hwr3 hz0 hN hI
      have hNd : MapL Tryz.prog 59 klS wfS w5.drew nb (entC na) := hN5.chg ((Chg.refl (fun _ => False) w5).drew) (fun h => h)
      have hId := hI5.chg ((Chg.refl (fun _ => False) w5).drew) (fun _ h => h.elim)
      have hlk := hNd.look keyS Tryz.underlying103 (zeroInt _) hcw false
      simp only [Bool.false_eq_true, if_false, cnt_ent] at hlk
      obtain ⟨st, w6, he1, he2, hN6, he3⟩ := hNd.entryV keyS Tryz.underlying103 (fun u => zeroInt u) (by unfold maxLen; unfold entC; rw [List.length_map]; omega) hcw
      have hlk6 := hN6.look keyS Tryz.underlying103 (zeroInt _) hcw false
      rw [cnt_ent] at he1 hN6 hlk6
      simp only [Bool.false_eq_true, if_false, getE_setE, Option.getD_some] at hlk6
      obtain ⟨old, hold⟩ : ∃ o, o = cntC na ⟨cl, ⟨ce, cr⟩⟩ := ⟨_, rfl⟩
      rw [← hold] at hlk he1 hlk6
      obtain ⟨w7, he4, hN7, hc7⟩ := he3 (.int .i64 (wrap64 (old + cN)))
      have hN8 : MapL Tryz.prog 59 klS wfS w7 nb (entC (nxL (l.take (i + 1)))) := by
        rw [hsn.out]
        unfold nxC
        rw [entC_set]
        dsimp only
        rw [← hold]
        exact hN7
      have hI8 := hId.chg hc7 (fun k e => by omega)
      have hznb : ¬ z = nb := fun e => hNd.ne_blk hA5.drew e.symm
      have t0 := (he2.cell (World.lt_of_cell s0) hznb).trans s0
      have t1 := (he2.cell (World.lt_of_cell s1) hznb).trans s1
      have t2 := (he2.cell (World.lt_of_cell s2) hznb).trans s2
      have t3 := (he2.cell (World.lt_of_cell s3) hznb).trans s3
      generalize goInt st = g at he1 he4
      unfold mkS at hlk he1 hlk6
      dsimp only at hlk he1 hlk6
      clear hsn hold he2 he3 hN7 hc7 hN6 hznb hId hI5
      refine wp_region_tree (fun wx => wx.cell? ⟨z, 0, none⟩ = some (.int .i64 cl) ∧ wx.cell? ⟨z, 1, none⟩ = some (.int .i64 ce) ∧ wx.cell? ⟨z, 2, none⟩ = some (.int .i64 cr) ∧ wx.cell? ⟨z, 3, none⟩ = some (.int .i64 cN)) 9 10 (by kernel_rfl) rfl (by kernel_rfl) (fun d _ _ _ _ h => by cases d <;> exact h) (⟨s0, s1, s2, s3⟩) (fun opz T hOps hT hTok hHeld => ?_)
      (refine wpTree_q 0 hTok hOps (by kernel_rfl) rfl rfl ⟨?_, ?_, ?_⟩; rotate_left; (focus (intro wx hSx; (try dsimp only at hSx); go_simp; (try with_reducible rfl))); (simp only [Act.put, List.setIfInBounds_toArray, List.set_cons_zero, List.set_cons_succ]))
      (refine wpTree_q 1 hTok hOps (by kernel_rfl) rfl rfl ⟨?_, ?_, ?_⟩; rotate_left; (focus (intro wx hSx; (try dsimp only at hSx); go_simp; (try with_reducible rfl))); (simp only [Act.put, List.setIfInBounds_toArray, List.set_cons_zero, List.set_cons_succ]))
      (refine wpTree_q 2 hTok hOps (by kernel_rfl) rfl rfl ⟨?_, ?_, ?_⟩; rotate_left; (focus (intro wx hSx; (try dsimp only at hSx); go_simp; (try with_reducible rfl))); (simp only [Act.put, List.setIfInBounds_toArray, List.set_cons_zero, List.set_cons_succ]))
      (refine wpTree_q 4 hTok hOps (by kernel_rfl) rfl rfl ⟨?_, ?_, ?_⟩; rotate_left; (focus (intro wx hSx; (try dsimp only at hSx); go_simp; (try with_reducible rfl))); (simp only [Act.put, List.setIfInBounds_toArray, List.set_cons_zero, List.set_cons_succ]))
      (refine wpTree_q 5 hTok hOps (by kernel_rfl) rfl rfl ⟨?_, ?_, ?_⟩; rotate_left; (focus (intro wx hSx; (try dsimp only at hSx); go_simp; (try with_reducible rfl))); (simp only [Act.put, List.setIfInBounds_toArray, List.set_cons_zero, List.set_cons_succ]))
      refine wpTree_2 3 7 hOps (by kernel_rfl) (by decide) (by decide) rfl rfl (fun K' hK => ?_) (fun K' hK => ?_)
      · go_simp
        refine hK.out _ _ ⟨s0, s1, s2, s3⟩ ?_
        clear hK K'
        try simp only [Act.put, List.setIfInBounds_toArray, List.set_cons_zero, List.set_cons_succ]
        (refine wpTree_q 6 hTok hOps (by kernel_rfl) rfl rfl ⟨?_, ?_, ?_⟩; rotate_left; (focus (intro wx hSx; (try dsimp only at hSx); go_simp; (try with_reducible rfl))); (simp only [Act.put, List.setIfInBounds_toArray, List.set_cons_zero, List.set_cons_succ]))
        refine wpTree_1 7 hOps (by kernel_rfl) (by decide) rfl (fun K' hK => ?_)
        go_simp
        refine hK.out _ _ ⟨t0, t1, t2, t3⟩ ?_
        clear hK K'
        try simp only [Act.put, List.setIfInBounds_toArray, List.set_cons_zero, List.set_cons_succ]
        (refine wpTree_q 8 hTok hOps (by kernel_rfl) rfl rfl ⟨?_, ?_, ?_⟩; rotate_left; (focus (intro wx hSx; (try dsimp only at hSx); go_simp; (try with_reducible rfl))); (simp only [Act.put, List.setIfInBounds_toArray, List.set_cons_zero, List.set_cons_succ]))
        refine wpTree_nil hOps (by kernel_rfl) ?_
        refine hT.out _ _ ?_
        simp only [List.drop_succ_cons, List.drop_zero]
        clear hHeld hTok hOps hT hlk hlk6 he1
        go_wp2_with fail
        go_roundw
        case rel => exact ⟨i + 1, by omega, by go_num, hI8, hN8⟩
        case measure => simp [intOf]; omega
      · go_simp
        refine hK.out _ _ ⟨t0, t1, t2, t3⟩ ?_
        clear hK K'
        try simp only [Act.put, List.setIfInBounds_toArray, List.set_cons_zero, List.set_cons_succ]
        (refine wpTree_q 8 hTok hOps (by kernel_rfl) rfl rfl ⟨?_, ?_, ?_⟩; rotate_left; (focus (intro wx hSx; (try dsimp only at hSx); go_simp; (try with_reducible rfl))); (simp only [Act.put, List.setIfInBounds_toArray, List.set_cons_zero, List.set_cons_succ]))
        refine wpTree_1 3 hOps (by kernel_rfl) (by decide) rfl (fun K' hK => ?_)
        go_simp
        refine hK.out _ _ ⟨t0, t1, t2, t3⟩ ?_
        clear hK K'
        try simp only [Act.put, List.setIfInBounds_toArray, List.set_cons_zero, List.set_cons_succ]
        (refine wpTree_q 6 hTok hOps (by kernel_rfl) rfl rfl ⟨?_, ?_, ?_⟩; rotate_left; (focus (intro wx hSx; (try dsimp only at hSx); go_simp; (try with_reducible rfl))); (simp only [Act.put, List.setIfInBounds_toArray, List.set_cons_zero, List.set_cons_succ]))
        refine wpTree_nil hOps (by kernel_rfl) ?_
        refine hT.out _ _ ?_
        simp only [List.drop_succ_cons, List.drop_zero]
        clear hHeld hTok hOps hT hlk hlk6 he1
        go_wp2_with fail
        go_roundw
        case rel => exact ⟨i + 1, by omega, by go_num, hI8, hN8⟩
        case measure => simp [intOf]; omega
    · obtain rfl : m = i := by omega
      rw [List.take_of_length_le (by rw [← hm.out]; exact Nat.le_refl _)] at hN
      have hbad : (∃ p ∈ nxL l, standB ops (cntC cs) (nxL l) p = false) → standsF ops (cntC cs) l = false := fun ⟨p, hp, h⟩ => by
        unfold standsF
        rw [List.all_eq_false]
        exact ⟨p, hp, by rw [h]; simp⟩
      have hgood : (∀ p ∈ nxL l, standB ops (cntC cs) (nxL l) p = true) → standsF ops (cntC cs) l = true := fun h => List.all_eq_true.2 h
      generalize nxL l = nx at hN hbad hgood
      replace hbad := Lib.hid hbad
      replace hgood := Lib.hid hgood
      clear hi him hl hkey
      go_wp2_with (at_range; refine wpList_rangeL rfl _ _ rfl keyS hN Tryz.underlying103 rfl ?next)
      case next =>
      intro w3 hr hb1 hs1
      obtain ⟨rb, hrb⟩ : ∃ rb, rb = wr.heap.size := ⟨_, rfl⟩
      have hI3 := hI.below (hb1.mono hI.bel.size)
      have hnrb : w.heap.size ≤ rb := by rw [hrb]; exact hI.bel.size
      have hnlt : nb < rb := by rw [hrb]; exact hN.lt
      rw [← hrb] at hr hs1 ⊢
      have hrl : rb < w3.heap.size := by omega
      clear hb1 hs1 hrb hN hI wr
      go_wp2_with fail
      go_loopw [10] (fun _ wr => ∃ rest, RangeL Tryz.prog 59 klS wfS wr nb rb (entC nx) rest ∧ StS w wr gb tb n cap ao base x ops cs ∧ rb < wr.heap.size ∧ Hid (∀ p ∈ nx, encC p ∈ rest ∨ standB ops (cntC cs) nx p = true)) (fun _ wr => wr.rangeLeft nb rb)
      case atStart => exact ⟨_, hr, hI3, hrl, Lib.hid (fun p hp => .inl (List.mem_map.2 ⟨p, hp, rfl⟩))⟩
      case round =>
        clear hr hI3 hrl
        obtain ⟨rest, hr, hI, hrl, hps⟩ := hrel
        go_wp2_with (at_next; refine wpList_nextL rfl _ rfl keyS hr rfl ?fin ?more)
        case fin =>
          rintro rfl
          have hE := hgood.out (fun p hp => (hps.out p hp).resolve_left (by simp))
          have hbE := hI.bel
          replace hE := Lib.hid hE
          clear hps hgood hbad
          go_wp2_with fail
          go_ret
          exact ⟨by rw [hE.out]; rfl, hbE⟩
        case more =>
          intro y v w4 hym hy hr4 hlt4 hch4 hsz4 hen
          obtain ⟨k, hkm, rfl⟩ := ent_mem (hr.sub _ hym)
          have hnext : standB ops (cntC cs) nx (y, k) = true → Hid (∀ p ∈ nx, encC p ∈ delE rest y ∨ standB ops (cntC cs) nx p = true) := fun hp => Lib.hid (fun q hq => by
            rcases hps.out q hq with h1 | h1
            · by_cases hqy : q.1 = y
              · have h2 : (q.1, Value.int .i64 q.2) ∈ entC nx := List.mem_map.2 ⟨q, hq, rfl⟩
                have h3 : (y, Value.int .i64 k) ∈ entC nx := hr.sub _ hym
                have h4 := getE_of_mem hr.nodup h2
                have h5 := getE_of_mem hr.nodup h3
                rw [hqy, h5] at h4
                simp only [Option.some.injEq, Value.int.injEq, true_and] at h4
                right
                rw [show q = (y, k) from Prod.ext hqy h4.symm]
                exact hp
              · left
                exact List.mem_filter.2 ⟨h1, by rw [Bool.not_eq_true', decide_eq_false_iff_not]; exact hqy⟩
            · exact .inr h1)
          have hbd : standB ops (cntC cs) nx (y, k) = false → standsF ops (cntC cs) l = false := fun h => hbad.out ⟨_, hkm, h⟩
          have hI4 := hI.chg hch4 (fun j e => by omega)
          have hrl4 : rb < w4.heap.size := by omega
          have hctn := hcnt.out y hy
          clear hr hym hkm hps hch4 hI hrl hsz4
          obtain ⟨old, hold⟩ : ∃ o, o = cntC cs y := ⟨_, rfl⟩
          have hsB : standB ops (cntC cs) nx (y, k) = (!(decide (k < 0) && decide (old < wrap64 (-k))) && (decide (k ≤ 0) || (entC nx).any (hitE ops y))) := by
            rw [hold, hitE_any]
            rfl
          rw [← hold] at hctn
          rw [hsB] at hnext hbd
          replace hnext := Lib.hid hnext
          replace hbd := Lib.hid hbd
          replace hctn := Lib.hid hctn
          clear hold hsB hbad
          obtain ⟨ax, hax⟩ : ∃ ax, ax = (entC nx).any (hitE ops y) := ⟨_, rfl⟩
          rw [← hax] at hnext hbd
          replace hax := Lib.hid hax
          obtain ⟨yl, ⟨ye, yr⟩⟩ := y
          have hctn2 := hctn.out
          unfold mkS at hen hctn2 ⊢
          dsimp only at hen hctn2 ⊢
          replace hctn2 := Lib.hid hctn2
          clear hctn
          go_upto_region 10 with fail
          refine Code.wp_world ?_
          intro w5 hw5
          have h5 : Chg (fun _ => False) w4 w5 := by rw [hw5]; exact (Chg.refl _ _).alloc _
          have hA5 : Blk w5 w4.heap.size #[.int .i64 yl, .int .i64 ye, .int .i64 yr] 59 := by rw [hw5]; exact Blk.new _ _ _
          have hI5 := hI4.chg h5 (fun _ h => h.elim)
          have hr5 := hr4.chg h5 (fun h => h) (fun h => h)
          have hrl5 : rb < w5.heap.size := Nat.lt_of_lt_of_le hrl4 h5.size
          have hlt5 : w5.rangeLeft nb rb < wr.rangeLeft nb rb := by rw [hr5.2]; exact hlt4
          have hr5 := hr5.1
          obtain ⟨z, hz0⟩ : ∃ z, z = w4.heap.size := ⟨_, rfl⟩
          have hzw : w.heap.size ≤ z := by rw [hz0]; exact hI4.bel.size
          have hrz : rb < z := by rw [hz0]; exact hrl4
          rw [← hz0] at hA5 ⊢
          clear hw5 h5 hen hz0 hI4 hr4 hlt4 hrl4
          -- the check of the number below 0
          have s0 := hA5.cellAt (i := 0) (v := .int .i64 yl) rfl
          have s1 := hA5.cellAt (i := 1) (v := .int .i64 ye) rfl
          have s2 := hA5.cellAt (i := 2) (v := .int .i64 yr) rfl
          have c1 := hI5.cell1
          by_cases hk0 : k < 0
          · have d1 : decide (k < 0) = true := by simpa using hk0
            have dle : decide (k ≤ 0) = true := by simp; omega
            rw [d1, dle, Bool.true_and, Bool.true_or, Bool.and_true] at hnext hbd
            have hd1 := Lib.hid d1
            replace hnext := Lib.hid hnext
            replace hbd := Lib.hid hbd
            refine wp_region_tree (fun wx => wx.cell? ⟨gb, 1, none⟩ = some (.pointer (some ⟨tb, 0, none⟩)) ∧ wx.cell? ⟨z, 0, none⟩ = some (.int .i64 yl) ∧ wx.cell? ⟨z, 1, none⟩ = some (.int .i64 ye) ∧ wx.cell? ⟨z, 2, none⟩ = some (.int .i64 yr)) 11 13 (by kernel_rfl) rfl (by kernel_rfl) (fun d _ _ _ _ h => by cases d <;> exact h) (⟨c1, s0, s1, s2⟩) (fun opz T hOps hT hTok hHeld => ?_)
            (refine wpTree_q 0 hTok hOps (by kernel_rfl) rfl rfl ⟨?_, ?_, ?_⟩; rotate_left; (focus (intro wx hSx; (try dsimp only at hSx); go_simp; (try with_reducible rfl))); (simp only [Act.put, List.setIfInBounds_toArray, List.set_cons_zero, List.set_cons_succ]))
            (refine wpTree_q 1 hTok hOps (by kernel_rfl) rfl rfl ⟨?_, ?_, ?_⟩; rotate_left; (focus (intro wx hSx; (try dsimp only at hSx); go_simp; (try with_reducible rfl))); (simp only [Act.put, List.setIfInBounds_toArray, List.set_cons_zero, List.set_cons_succ]))
            (refine wpTree_q 2 hTok hOps (by kernel_rfl) rfl rfl ⟨?_, ?_, ?_⟩; rotate_left; (focus (intro wx hSx; (try dsimp only at hSx); go_simp; (try with_reducible rfl))); (simp only [Act.put, List.setIfInBounds_toArray, List.set_cons_zero, List.set_cons_succ]))
            (refine wpTree_qg 3 hTok hOps (by kernel_rfl) rfl rfl ⟨?_, ?_, ?_⟩; rotate_left; (focus (intro wx hSx; (try dsimp only at hSx); go_simp; (try with_reducible rfl))); (simp only [Act.put, List.setIfInBounds_toArray, List.set_cons_zero, List.set_cons_succ]))
            (refine wpTree_qg 4 hTok hOps (by kernel_rfl) rfl rfl ⟨?_, ?_, ?_⟩; rotate_left; (focus (intro wx hSx; (try dsimp only at hSx); go_simp; (try with_reducible rfl))); (simp only [Act.put, List.setIfInBounds_toArray, List.set_cons_zero, List.set_cons_succ]))
            (refine wpTree_qg 5 hTok hOps (by kernel_rfl) rfl rfl ⟨?_, ?_, ?_⟩; rotate_left; (focus (intro wx hSx; (try dsimp only at hSx); go_simp; (try with_reducible rfl))); (simp only [Act.put, List.setIfInBounds_toArray, List.set_cons_zero, List.set_cons_succ]))
            (refine wpTree_qg 6 hTok hOps (by kernel_rfl) rfl rfl ⟨?_, ?_, ?_⟩; rotate_left; (focus (intro wx hSx; (try dsimp only at hSx); go_simp; (try with_reducible rfl))); (simp only [Act.put, List.setIfInBounds_toArray, List.set_cons_zero, List.set_cons_succ]))
            (refine wpTree_qg 7 hTok hOps (by kernel_rfl) rfl rfl ⟨?_, ?_, ?_⟩; rotate_left; (focus (intro wx hSx; (try dsimp only at hSx); go_simp; (try with_reducible rfl))); (simp only [Act.put, List.setIfInBounds_toArray, List.set_cons_zero, List.set_cons_succ]))
            (refine wpTree_qg 9 hTok hOps (by kernel_rfl) rfl rfl ⟨?_, ?_, ?_⟩; rotate_left; (focus (intro wx hSx; (try dsimp only at hSx); go_simp; (try with_reducible rfl))); (simp only [Act.put, List.setIfInBounds_toArray, List.set_cons_zero, List.set_cons_succ]))
            (refine wpTree_qg 10 hTok hOps (by kernel_rfl) rfl rfl ⟨?_, ?_, ?_⟩; rotate_left; (focus (intro wx hSx; (try dsimp only at hSx); go_simp; (try with_reducible rfl))); (simp only [Act.put, List.setIfInBounds_toArray, List.set_cons_zero, List.set_cons_succ]))
            refine wpTree_1g 8 hOps (by kernel_rfl) (by decide) rfl rfl (fun K' hK => ?_)
            have hId := hI5.chg ((Chg.refl (fun _ => False) w5).drew) (fun _ h => h.elim)
            have hrd := hr5.chg ((Chg.refl (fun _ => False) w5).drew) (fun h => h) (fun h => h)
            have hAd := hA5.drew
            go_simp
            refine (hctn2.out _ hId.bel).mono ?_
            rintro e w6 ⟨rfl, hb6⟩
            have hc6 := Chg.of_below hb6
            have hsz5 : w5.heap.size = w5.drew.heap.size := rfl
            have hI6 := hId.chg hc6 (fun j e => Nat.le_trans hId.bel.size e)
            have hr6 := hrd.1.chg hc6 (by have := hrd.1.lt; omega) (by have := hrd.1.lt; omega)
            have hA6 := hAd.chg hc6 (by have := hAd.lt; omega)
            have hrl6 : rb < w6.heap.size := by have := hb6.size; omega
            have hlt6 : w6.rangeLeft nb rb < wr.rangeLeft nb rb := by rw [hr6.2, hrd.2]; exact hlt5
            have hr6 := hr6.1
            try dsimp only
            refine hK.out _ _ ⟨hI6.cell1, hA6.cellAt rfl, hA6.cellAt rfl, hA6.cellAt rfl⟩ ?_
            clear hK K'
            try simp only [Act.put, List.setIfInBounds_toArray, List.set_cons_zero, List.set_cons_succ]
            refine wpTree_nil hOps (by kernel_rfl) ?_
            refine hT.out _ _ ?_
            simp only [List.drop_succ_cons, List.drop_zero]
            clear hOps hT hTok
            try clear hHeld
            clear hId hrd hAd hb6 hc6 hsz5 hI5 hr5 hA5 hlt5 hrl5 s0 s1 s2 c1
            by_cases hlo : old < wrap64 (-k)
            · have d2 : decide (old < wrap64 (-k)) = true := by simpa using hlo
              have hE := hbd.out (by rw [d2]; rfl)
              have hbE := hI6.bel
              replace hE := Lib.hid hE
              clear hnext hbd hlo hgood
              go_wp2_with fail
              go_ret
              exact ⟨by rw [hE.out]; rfl, hbE⟩
            · have d2 : decide (old < wrap64 (-k)) = false := by simpa using hlo
              have hnx := hnext.out (by rw [d2]; rfl)
              have hax2 : (decide (k ≤ 0) || ax) = true := by rw [dle]; rfl
              replace hnx := Lib.hid hnx
              replace hax2 := Lib.hid hax2
              clear hnext hbd hlo
              go_upto_region 12 with fail
              have hNm := hr6.owns
              obtain ⟨wi, rfl⟩ : ∃ wi, wi = wr := ⟨_, rfl⟩
              go_wp2_with (at_range; refine wpList_rangeL rfl _ _ rfl keyS hNm Tryz.underlying103 rfl ?_)
              intro w7 hq hb7 hs7
              obtain ⟨rb2, hrb2⟩ : ∃ rb2, rb2 = w6.heap.size := ⟨_, rfl⟩
              rw [← hrb2] at hq hs7 ⊢
              have hc7 := Chg.of_below hb7
              have hrw6 := hI6.bel.size
              have hI7 := hI6.chg hc7 (fun j e => Nat.le_trans hrw6 e)
              have hr7 := hr6.chg hc7 (by have := hr6.lt; omega) (by have := hr6.lt; omega)
              have hA7 := hA6.chg hc7 (by have := hA6.lt; omega)
              have hlt7 : w7.rangeLeft nb rb < wi.rangeLeft nb rb := by rw [hr7.2]; exact hlt6
              have hr7 := hr7.1
              have hrb2l : rb2 < w7.heap.size := by omega
              have hzb2 : z < rb2 := by rw [hrb2]; exact hA6.lt
              clear hNm hb7 hs7 hc7 hrw6 hI6 hr6 hA6 hlt6 hrl6 hrb2
              go_wp2_with fail
              go_loopw [10] (fun x10 wr => x10 = .bool true ∧ ∃ rest2, RangeL Tryz.prog 59 klS wfS wr nb rb2 (entC nx) rest2 ∧ RangeL Tryz.prog 59 klS wfS wr nb rb (entC nx) (delE rest ⟨yl, ⟨ye, yr⟩⟩) ∧ StS w wr gb tb n cap ao base x ops cs ∧ rb2 < wr.heap.size ∧ wr.rangeLeft nb rb < wi.rangeLeft nb rb) (fun _ wr => wr.rangeLeft nb rb2)
              case atStart => exact ⟨rfl, _, hq, hr7, hI7, hrb2l, hlt7⟩
              case round =>
                clear hq hr7 hI7 hrb2l hlt7 hA7
                obtain ⟨rfl, rest2, hq, hr, hI, hrl2, hltr⟩ := hrel
                go_wp2_with (at_next; refine wpList_nextL rfl _ rfl keyS hq rfl ?_ ?_)
                · rintro rfl
                  clear hq
                  go_wp2_with fail
                  go_roundw
                  case rel => exact ⟨_, hr, hI, by omega, hnx.out⟩
                  case measure => exact hltr
                · intro o v2 w8 hom ho hq8 hlt8 hch8 hsz8 hen8
                  obtain ⟨k2, hkm2, rfl⟩ := ent_mem (hq.sub _ hom)
                  have hI8 := hI.chg hch8 (fun j e => by have := hr.lt; omega)
                  have hr8 := hr.chg hch8 (by omega) (by omega)
                  have hlt8r : w8.rangeLeft nb rb < wi.rangeLeft nb rb := by rw [hr8.2]; exact hltr
                  have hr8 := hr8.1
                  have hrl8 : rb2 < w8.heap.size := by omega
                  clear hq hom hkm2 hch8 hsz8 hI hr hltr hrl2
                  obtain ⟨ol, ⟨oe, orr⟩⟩ := o
                  unfold mkS at hen8 ⊢
                  dsimp only at hen8 ⊢
                  go_upto_region 16 with fail
                  refine Code.wp_world ?_
                  intro w9 hw9
                  have h9 : Chg (fun _ => False) w8 w9 := by rw [hw9]; exact (Chg.refl _ _).alloc _
                  have hI9 := hI8.chg h9 (fun _ h => h.elim)
                  have hr9 := hr8.chg h9 (fun h => h) (fun h => h)
                  have hq9 := hq8.chg h9 (fun h => h) (fun h => h)
                  have hrl9 : rb2 < w9.heap.size := Nat.lt_of_lt_of_le hrl8 h9.size
                  clear hw9 hen8 h9
                  have c0 := hI9.cell0
                  refine wp_region_tree (fun wx => wx.cell? ⟨gb, 0, none⟩ = some (.slice ao n cap)) 11 15 (by kernel_rfl) rfl (by kernel_rfl) (fun d _ _ _ _ h => by cases d <;> exact h) (c0) (fun opz T hOps hT hTok hHeld => ?_)
                  (refine wpTree_q 0 hTok hOps (by kernel_rfl) rfl rfl ⟨?_, ?_, ?_⟩; rotate_left; (focus (intro wx hSx; (try dsimp only at hSx); go_simp; (try with_reducible rfl))); (simp only [Act.put, List.setIfInBounds_toArray, List.set_cons_zero, List.set_cons_succ]))
                  (refine wpTree_q 1 hTok hOps (by kernel_rfl) rfl rfl ⟨?_, ?_, ?_⟩; rotate_left; (focus (intro wx hSx; (try dsimp only at hSx); go_simp; (try with_reducible rfl))); (simp only [Act.put, List.setIfInBounds_toArray, List.set_cons_zero, List.set_cons_succ]))
                  (refine wpTree_qn 2 hTok hOps (by kernel_rfl) rfl rfl ?_; (try simp only [Act.put, List.setIfInBounds_toArray, List.set_cons_zero, List.set_cons_succ]))
                  (refine wpTree_qn 3 hTok hOps (by kernel_rfl) rfl rfl ?_; (try simp only [Act.put, List.setIfInBounds_toArray, List.set_cons_zero, List.set_cons_succ]))
                  (refine wpTree_qn 4 hTok hOps (by kernel_rfl) rfl rfl ?_; (try simp only [Act.put, List.setIfInBounds_toArray, List.set_cons_zero, List.set_cons_succ]))
                  (refine wpTree_qn 5 hTok hOps (by kernel_rfl) rfl rfl ?_; (try simp only [Act.put, List.setIfInBounds_toArray, List.set_cons_zero, List.set_cons_succ]))
                  (refine wpTree_qn 6 hTok hOps (by kernel_rfl) rfl rfl ?_; (try simp only [Act.put, List.setIfInBounds_toArray, List.set_cons_zero, List.set_cons_succ]))
                  (refine wpTree_qn 7 hTok hOps (by kernel_rfl) rfl rfl ?_; (try simp only [Act.put, List.setIfInBounds_toArray, List.set_cons_zero, List.set_cons_succ]))
                  (refine wpTree_qn 8 hTok hOps (by kernel_rfl) rfl rfl ?_; (try simp only [Act.put, List.setIfInBounds_toArray, List.set_cons_zero, List.set_cons_succ]))
                  (refine wpTree_qn 9 hTok hOps (by kernel_rfl) rfl rfl ?_; (try simp only [Act.put, List.setIfInBounds_toArray, List.set_cons_zero, List.set_cons_succ]))
                  (refine wpTree_qn 10 hTok hOps (by kernel_rfl) rfl rfl ?_; (try simp only [Act.put, List.setIfInBounds_toArray, List.set_cons_zero, List.set_cons_succ]))
                  refine wpTree_nil hOps (by kernel_rfl) ?_
                  refine hT.out _ _ ?_
                  simp only [List.drop_succ_cons, List.drop_zero]
                  clear hOps hT hTok
                  try clear hHeld
                  have hI10 := hI9.chg ((Chg.refl (fun _ => False) w9).drew) (fun _ h => h.elim)
                  have hr10 := hr9.1.chg ((Chg.refl (fun _ => False) w9).drew) (fun h => h) (fun h => h)
                  have hq10 := hq9.1.chg ((Chg.refl (fun _ => False) w9).drew) (fun h => h) (fun h => h)
                  have hrl10 : rb2 < w9.drew.heap.size := hrl9
                  have hm10 : w9.drew.rangeLeft nb rb2 < wr.rangeLeft nb rb2 := by rw [hq10.2, hq9.2]; exact hlt8
                  have hltA : w9.drew.rangeLeft nb rb < wi.rangeLeft nb rb := by rw [hr10.2, hr9.2]; exact hlt8r
                  clear c0
                  go_wp2_with fail
                  go_roundw
                  case rel => exact ⟨rfl, _, hq10.1, hr10.1, hI10, hrl10, hltA⟩
                  case measure => exact hm10
          · have d1 : decide (k < 0) = false := by simpa using hk0
            rw [d1, Bool.false_and, Bool.not_false, Bool.true_and] at hnext hbd
            replace hnext := Lib.hid hnext
            replace hbd := Lib.hid hbd
            refine wp_region_tree (fun wx => wx.cell? ⟨gb, 1, none⟩ = some (.pointer (some ⟨tb, 0, none⟩))) 11 13 (by kernel_rfl) rfl (by kernel_rfl) (fun d _ _ _ _ h => by cases d <;> exact h) (c1) (fun opz T hOps hT hTok hHeld => ?_)
            (refine wpTree_q 0 hTok hOps (by kernel_rfl) rfl rfl ⟨?_, ?_, ?_⟩; rotate_left; (focus (intro wx hSx; (try dsimp only at hSx); go_simp; (try with_reducible rfl))); (simp only [Act.put, List.setIfInBounds_toArray, List.set_cons_zero, List.set_cons_succ]))
            (refine wpTree_q 1 hTok hOps (by kernel_rfl) rfl rfl ⟨?_, ?_, ?_⟩; rotate_left; (focus (intro wx hSx; (try dsimp only at hSx); go_simp; (try with_reducible rfl))); (simp only [Act.put, List.setIfInBounds_toArray, List.set_cons_zero, List.set_cons_succ]))
            (refine wpTree_q 2 hTok hOps (by kernel_rfl) rfl rfl ⟨?_, ?_, ?_⟩; rotate_left; (focus (intro wx hSx; (try dsimp only at hSx); go_simp; (try with_reducible rfl))); (simp only [Act.put, List.setIfInBounds_toArray, List.set_cons_zero, List.set_cons_succ]))
            (refine wpTree_qn 3 hTok hOps (by kernel_rfl) rfl rfl ?_; (try simp only [Act.put, List.setIfInBounds_toArray, List.set_cons_zero, List.set_cons_succ]))
            (refine wpTree_qn 4 hTok hOps (by kernel_rfl) rfl rfl ?_; (try simp only [Act.put, List.setIfInBounds_toArray, List.set_cons_zero, List.set_cons_succ]))
            (refine wpTree_qn 5 hTok hOps (by kernel_rfl) rfl rfl ?_; (try simp only [Act.put, List.setIfInBounds_toArray, List.set_cons_zero, List.set_cons_succ]))
            (refine wpTree_qn 6 hTok hOps (by kernel_rfl) rfl rfl ?_; (try simp only [Act.put, List.setIfInBounds_toArray, List.set_cons_zero, List.set_cons_succ]))
            (refine wpTree_qn 7 hTok hOps (by kernel_rfl) rfl rfl ?_; (try simp only [Act.put, List.setIfInBounds_toArray, List.set_cons_zero, List.set_cons_succ]))
            (refine wpTree_qn 8 hTok hOps (by kernel_rfl) rfl rfl ?_; (try simp only [Act.put, List.setIfInBounds_toArray, List.set_cons_zero, List.set_cons_succ]))
            (refine wpTree_qn 9 hTok hOps (by kernel_rfl) rfl rfl ?_; (try simp only [Act.put, List.setIfInBounds_toArray, List.set_cons_zero, List.set_cons_succ]))
            (refine wpTree_qn 10 hTok hOps (by kernel_rfl) rfl rfl ?_; (try simp only [Act.put, List.setIfInBounds_toArray, List.set_cons_zero, List.set_cons_succ]))
            refine wpTree_nil hOps (by kernel_rfl) ?_
            refine hT.out _ _ ?_
            simp only [List.drop_succ_cons, List.drop_zero]
            clear hOps hT hTok
            try clear hHeld
            have hI6 := hI5.chg ((Chg.refl (fun _ => False) w5).drew) (fun _ h => h.elim)
            have hr6 := hr5.chg ((Chg.refl (fun _ => False) w5).drew) (fun h => h) (fun h => h)
            have hA6 := hA5.drew
            have hrl6 : rb < w5.drew.heap.size := hrl5
            have hlt6 : w5.drew.rangeLeft nb rb < wr.rangeLeft nb rb := by rw [hr6.2]; exact hlt5
            have hr6 := hr6.1
            generalize w5.drew = w6 at hI6 hr6 hA6 hrl6 hlt6 ⊢
            clear hI5 hr5 hA5 hlt5 hrl5 s0 s1 s2 c1
            go_upto_region 12 with fail
            by_cases hk1 : k = 0
            · have dle : decide (k ≤ 0) = true := by simp; omega
              rw [dle, Bool.true_or] at hnext hbd
              have hax2 : (decide (k ≤ 0) || ax) = true := by rw [dle]; rfl
              have hnx := hnext.out rfl
              replace hnx := Lib.hid hnx
              replace hax2 := Lib.hid hax2
              clear hnext hbd hk0
              replace hk1 := Lib.hid hk1
              have hNm := hr6.owns
              obtain ⟨wi, rfl⟩ : ∃ wi, wi = wr := ⟨_, rfl⟩
              go_wp2_with (at_range; refine wpList_rangeL rfl _ _ rfl keyS hNm Tryz.underlying103 rfl ?_)
              intro w7 hq hb7 hs7
              obtain ⟨rb2, hrb2⟩ : ∃ rb2, rb2 = w6.heap.size := ⟨_, rfl⟩
              rw [← hrb2] at hq hs7 ⊢
              have hc7 := Chg.of_below hb7
              have hrw6 := hI6.bel.size
              have hI7 := hI6.chg hc7 (fun j e => Nat.le_trans hrw6 e)
              have hr7 := hr6.chg hc7 (by have := hr6.lt; omega) (by have := hr6.lt; omega)
              have hA7 := hA6.chg hc7 (by have := hA6.lt; omega)
              have hlt7 : w7.rangeLeft nb rb < wi.rangeLeft nb rb := by rw [hr7.2]; exact hlt6
              have hr7 := hr7.1
              have hrb2l : rb2 < w7.heap.size := by omega
              have hzb2 : z < rb2 := by rw [hrb2]; exact hA6.lt
              clear hNm hb7 hs7 hc7 hrw6 hI6 hr6 hA6 hlt6 hrl6 hrb2
              go_wp2_with fail
              go_loopw [10] (fun x10 wr => x10 = .bool true ∧ ∃ rest2, RangeL Tryz.prog 59 klS wfS wr nb rb2 (entC nx) rest2 ∧ RangeL Tryz.prog 59 klS wfS wr nb rb (entC nx) (delE rest ⟨yl, ⟨ye, yr⟩⟩) ∧ StS w wr gb tb n cap ao base x ops cs ∧ rb2 < wr.heap.size ∧ wr.rangeLeft nb rb < wi.rangeLeft nb rb) (fun _ wr => wr.rangeLeft nb rb2)
              case atStart => exact ⟨rfl, _, hq, hr7, hI7, hrb2l, hlt7⟩
              case round =>
                clear hq hr7 hI7 hrb2l hlt7 hA7
                obtain ⟨rfl, rest2, hq, hr, hI, hrl2, hltr⟩ := hrel
                go_wp2_with (at_next; refine wpList_nextL rfl _ rfl keyS hq rfl ?_ ?_)
                · rintro rfl
                  clear hq
                  go_wp2_with fail
                  go_roundw
                  case rel => exact ⟨_, hr, hI, by omega, hnx.out⟩
                  case measure => exact hltr
                · intro o v2 w8 hom ho hq8 hlt8 hch8 hsz8 hen8
                  obtain ⟨k2, hkm2, rfl⟩ := ent_mem (hq.sub _ hom)
                  have hI8 := hI.chg hch8 (fun j e => by have := hr.lt; omega)
                  have hr8 := hr.chg hch8 (by omega) (by omega)
                  have hlt8r : w8.rangeLeft nb rb < wi.rangeLeft nb rb := by rw [hr8.2]; exact hltr
                  have hr8 := hr8.1
                  have hrl8 : rb2 < w8.heap.size := by omega
                  clear hq hom hkm2 hch8 hsz8 hI hr hltr hrl2
                  obtain ⟨ol, ⟨oe, orr⟩⟩ := o
                  unfold mkS at hen8 ⊢
                  dsimp only at hen8 ⊢
                  go_upto_region 16 with fail
                  refine Code.wp_world ?_
                  intro w9 hw9
                  have h9 : Chg (fun _ => False) w8 w9 := by rw [hw9]; exact (Chg.refl _ _).alloc _
                  have hI9 := hI8.chg h9 (fun _ h => h.elim)
                  have hr9 := hr8.chg h9 (fun h => h) (fun h => h)
                  have hq9 := hq8.chg h9 (fun h => h) (fun h => h)
                  have hrl9 : rb2 < w9.heap.size := Nat.lt_of_lt_of_le hrl8 h9.size
                  clear hw9 hen8 h9
                  have c0 := hI9.cell0
                  refine wp_region_tree (fun wx => wx.cell? ⟨gb, 0, none⟩ = some (.slice ao n cap)) 11 15 (by kernel_rfl) rfl (by kernel_rfl) (fun d _ _ _ _ h => by cases d <;> exact h) (c0) (fun opz T hOps hT hTok hHeld => ?_)
                  (refine wpTree_q 0 hTok hOps (by kernel_rfl) rfl rfl ⟨?_, ?_, ?_⟩; rotate_left; (focus (intro wx hSx; (try dsimp only at hSx); go_simp; (try with_reducible rfl))); (simp only [Act.put, List.setIfInBounds_toArray, List.set_cons_zero, List.set_cons_succ]))
                  (refine wpTree_q 1 hTok hOps (by kernel_rfl) rfl rfl ⟨?_, ?_, ?_⟩; rotate_left; (focus (intro wx hSx; (try dsimp only at hSx); go_simp; (try with_reducible rfl))); (simp only [Act.put, List.setIfInBounds_toArray, List.set_cons_zero, List.set_cons_succ]))
                  (refine wpTree_qn 2 hTok hOps (by kernel_rfl) rfl rfl ?_; (try simp only [Act.put, List.setIfInBounds_toArray, List.set_cons_zero, List.set_cons_succ]))
                  (refine wpTree_qn 3 hTok hOps (by kernel_rfl) rfl rfl ?_; (try simp only [Act.put, List.setIfInBounds_toArray, List.set_cons_zero, List.set_cons_succ]))
                  (refine wpTree_qn 4 hTok hOps (by kernel_rfl) rfl rfl ?_; (try simp only [Act.put, List.setIfInBounds_toArray, List.set_cons_zero, List.set_cons_succ]))
                  (refine wpTree_qn 5 hTok hOps (by kernel_rfl) rfl rfl ?_; (try simp only [Act.put, List.setIfInBounds_toArray, List.set_cons_zero, List.set_cons_succ]))
                  (refine wpTree_qn 6 hTok hOps (by kernel_rfl) rfl rfl ?_; (try simp only [Act.put, List.setIfInBounds_toArray, List.set_cons_zero, List.set_cons_succ]))
                  (refine wpTree_qn 7 hTok hOps (by kernel_rfl) rfl rfl ?_; (try simp only [Act.put, List.setIfInBounds_toArray, List.set_cons_zero, List.set_cons_succ]))
                  (refine wpTree_qn 8 hTok hOps (by kernel_rfl) rfl rfl ?_; (try simp only [Act.put, List.setIfInBounds_toArray, List.set_cons_zero, List.set_cons_succ]))
                  (refine wpTree_qn 9 hTok hOps (by kernel_rfl) rfl rfl ?_; (try simp only [Act.put, List.setIfInBounds_toArray, List.set_cons_zero, List.set_cons_succ]))
                  (refine wpTree_qn 10 hTok hOps (by kernel_rfl) rfl rfl ?_; (try simp only [Act.put, List.setIfInBounds_toArray, List.set_cons_zero, List.set_cons_succ]))
                  refine wpTree_nil hOps (by kernel_rfl) ?_
                  refine hT.out _ _ ?_
                  simp only [List.drop_succ_cons, List.drop_zero]
                  clear hOps hT hTok
                  try clear hHeld
                  have hI10 := hI9.chg ((Chg.refl (fun _ => False) w9).drew) (fun _ h => h.elim)
                  have hr10 := hr9.1.chg ((Chg.refl (fun _ => False) w9).drew) (fun h => h) (fun h => h)
                  have hq10 := hq9.1.chg ((Chg.refl (fun _ => False) w9).drew) (fun h => h) (fun h => h)
                  have hrl10 : rb2 < w9.drew.heap.size := hrl9
                  have hm10 : w9.drew.rangeLeft nb rb2 < wr.rangeLeft nb rb2 := by rw [hq10.2, hq9.2]; exact hlt8
                  have hltA : w9.drew.rangeLeft nb rb < wi.rangeLeft nb rb := by rw [hr10.2, hr9.2]; exact hlt8r
                  clear c0
                  go_wp2_with fail
                  go_roundw
                  case rel => exact ⟨rfl, _, hq10.1, hr10.1, hI10, hrl10, hltA⟩
                  case measure => exact hm10
            · have dle : decide (k ≤ 0) = false := by simp; omega
              rw [dle, Bool.false_or] at hnext hbd
              clear hk0 hk1
              replace hnext := Lib.hid hnext
              replace hbd := Lib.hid hbd
              have hNm := hr6.owns
              obtain ⟨wi, rfl⟩ : ∃ wi, wi = wr := ⟨_, rfl⟩
              go_wp2_with (at_range; refine wpList_rangeL rfl _ _ rfl keyS hNm Tryz.underlying103 rfl ?_)
              intro w7 hq hb7 hs7
              obtain ⟨rb2, hrb2⟩ : ∃ rb2, rb2 = w6.heap.size := ⟨_, rfl⟩
              rw [← hrb2] at hq hs7 ⊢
              have hc7 := Chg.of_below hb7
              have hrw6 := hI6.bel.size
              have hI7 := hI6.chg hc7 (fun j e => Nat.le_trans hrw6 e)
              have hr7 := hr6.chg hc7 (by have := hr6.lt; omega) (by have := hr6.lt; omega)
              have hA7 := hA6.chg hc7 (by have := hA6.lt; omega)
              have hlt7 : w7.rangeLeft nb rb < wi.rangeLeft nb rb := by rw [hr7.2]; exact hlt6
              have hr7 := hr7.1
              have hrb2l : rb2 < w7.heap.size := by omega
              have hzb2 : z < rb2 := by rw [hrb2]; exact hA6.lt
              have hax3 := Lib.hid hax.out.symm
              clear hNm hb7 hs7 hc7 hrw6 hI6 hr6 hA6 hlt6 hrl6 hrb2
              go_wp2_with fail
              go_loopw [10] (fun x10 wr => ∃ rest2 ok, x10 = .bool ok ∧ RangeL Tryz.prog 59 klS wfS wr nb rb2 (entC nx) rest2 ∧ RangeL Tryz.prog 59 klS wfS wr nb rb (entC nx) (delE rest ⟨yl, ⟨ye, yr⟩⟩) ∧ StS w wr gb tb n cap ao base x ops cs ∧ rb2 < wr.heap.size ∧ wr.rangeLeft nb rb < wi.rangeLeft nb rb ∧ Blk wr z #[.int .i64 yl, .int .i64 ye, .int .i64 yr] 59 ∧ Hid (ax = (ok || rest2.any (hitE ops ⟨yl, ⟨ye, yr⟩⟩)))) (fun _ wr => wr.rangeLeft nb rb2)
              case atStart => exact ⟨_, false, rfl, hq, hr7, hI7, hrb2l, hlt7, hA7, Lib.hid (by rw [hax.out]; rfl)⟩
              case round =>
                clear hq hr7 hI7 hrb2l hlt7 hA7
                obtain ⟨rest2, ok, rfl, hq, hr, hI, hrl2, hltr, hA, hok⟩ := hrel
                go_wp2_with (at_next; refine wpList_nextL rfl _ rfl keyS hq rfl ?_ ?_)
                · rintro rfl
                  have hok2 : ax = ok := by rw [hok.out]; simp
                  clear hq hok
                  cases ok with
                  | true =>
                    have hnx := Lib.hid (hnext.out hok2)
                    clear hnext hbd hok2
                    go_wp2_with fail
                    go_roundw
                    case rel => exact ⟨_, hr, hI, by omega, hnx.out⟩
                    case measure => exact hltr
                  | false =>
                    have hE := Lib.hid (hbd.out hok2)
                    have hbE := hI.bel
                    clear hnext hbd hok2 hgood
                    go_wp2_with fail
                    go_ret
                    exact ⟨by rw [hE.out]; rfl, hbE⟩
                · intro o v2 w8 hom ho hq8 hlt8 hch8 hsz8 hen8
                  have hdl := any_del hq.rnodup hom (hitE ops ⟨yl, ⟨ye, yr⟩⟩)
                  obtain ⟨k2, hkm2, rfl⟩ := ent_mem (hq.sub _ hom)
                  have hI8 := hI.chg hch8 (fun j e => by have := hr.lt; omega)
                  have hr8 := hr.chg hch8 (by omega) (by omega)
                  have hA8 := hA.chg hch8 (by omega)
                  have hlt8r : w8.rangeLeft nb rb < wi.rangeLeft nb rb := by rw [hr8.2]; exact hltr
                  have hr8 := hr8.1
                  have hrl8 : rb2 < w8.heap.size := by omega
                  have hok8 : ax = ((ok || hitE ops ⟨yl, ⟨ye, yr⟩⟩ (o, .int .i64 k2)) || (delE rest2 o).any (hitE ops ⟨yl, ⟨ye, yr⟩⟩)) := by rw [hok.out, hdl, Bool.or_assoc]
                  have hhit : hitE ops ⟨yl, ⟨ye, yr⟩⟩ (o, .int .i64 k2) = (decide (k2 < 0) && couldS ops o.fLoc o.fT.fEpoch o.fT.fRound yl ye yr) := rfl
                  rw [hhit] at hok8
                  replace hok8 := Lib.hid hok8
                  clear hq hom hkm2 hch8 hsz8 hI hr hltr hrl2 hA hok hdl hhit
                  obtain ⟨ol, ⟨oe, orr⟩⟩ := o
                  have hcl := hcld.out ol oe orr yl ye yr
                  unfold mkS at hen8 ⊢
                  dsimp only at hen8 hok8 ⊢
                  obtain ⟨bc, hbc⟩ : ∃ bc, bc = couldS ops ol oe orr yl ye yr := ⟨_, rfl⟩
                  rw [← hbc] at hok8 hcl
                  replace hcl := Lib.hid hcl
                  replace hok8 := Lib.hid hok8.out
                  clear hbc
                  go_upto_region 16 with fail
                  refine Code.wp_world ?_
                  intro w9 hw9
                  have h9 : Chg (fun _ => False) w8 w9 := by rw [hw9]; exact (Chg.refl _ _).alloc _
                  have hB9 : Blk w9 w8.heap.size #[.int .i64 ol, .int .i64 oe, .int .i64 orr] 59 := by rw [hw9]; exact Blk.new _ _ _
                  have hI9 := hI8.chg h9 (fun _ h => h.elim)
                  have hr9 := hr8.chg h9 (fun h => h) (fun h => h)
                  have hq9 := hq8.chg h9 (fun h => h) (fun h => h)
                  have hA9 := hA8.chg h9 (fun h => h)
                  have hrl9 : rb2 < w9.heap.size := Nat.lt_of_lt_of_le hrl8 h9.size
                  obtain ⟨z2, hz2⟩ : ∃ z2, z2 = w8.heap.size := ⟨_, rfl⟩
                  rw [← hz2] at hB9 ⊢
                  clear hw9 hen8 h9 hz2
                  have c0 := hI9.cell0
                  have s0 := hA9.cellAt (i := 0) (v := .int .i64 yl) rfl
                  have s1 := hA9.cellAt (i := 1) (v := .int .i64 ye) rfl
                  have s2 := hA9.cellAt (i := 2) (v := .int .i64 yr) rfl
                  have t0 := hB9.cellAt (i := 0) (v := .int .i64 ol) rfl
                  have t1 := hB9.cellAt (i := 1) (v := .int .i64 oe) rfl
                  have t2 := hB9.cellAt (i := 2) (v := .int .i64 orr) rfl
                  have hI10 := hI9.chg ((Chg.refl (fun _ => False) w9).drew) (fun _ h => h.elim)
                  have hr10 := hr9.1.chg ((Chg.refl (fun _ => False) w9).drew) (fun h => h) (fun h => h)
                  have hq10 := hq9.1.chg ((Chg.refl (fun _ => False) w9).drew) (fun h => h) (fun h => h)
                  have hA10 := hA9.drew
                  have hrl10 : rb2 < w9.drew.heap.size := hrl9
                  have hm10 : w9.drew.rangeLeft nb rb2 < wr.rangeLeft nb rb2 := by rw [hq10.2, hq9.2]; exact hlt8
                  have hltA : w9.drew.rangeLeft nb rb < wi.rangeLeft nb rb := by rw [hr10.2, hr9.2]; exact hlt8r
                  cases ok with
                  | true =>
                    refine wp_region_tree (fun wx => wx.cell? ⟨gb, 0, none⟩ = some (.slice ao n cap)) 11 15 (by kernel_rfl) rfl (by kernel_rfl) (fun d _ _ _ _ h => by cases d <;> exact h) (c0) (fun opz T hOps hT hTok hHeld => ?_)
                    (refine wpTree_q 0 hTok hOps (by kernel_rfl) rfl rfl ⟨?_, ?_, ?_⟩; rotate_left; (focus (intro wx hSx; (try dsimp only at hSx); go_simp; (try with_reducible rfl))); (simp only [Act.put, List.setIfInBounds_toArray, List.set_cons_zero, List.set_cons_succ]))
                    (refine wpTree_q 1 hTok hOps (by kernel_rfl) rfl rfl ⟨?_, ?_, ?_⟩; rotate_left; (focus (intro wx hSx; (try dsimp only at hSx); go_simp; (try with_reducible rfl))); (simp only [Act.put, List.setIfInBounds_toArray, List.set_cons_zero, List.set_cons_succ]))
                    (refine wpTree_qn 2 hTok hOps (by kernel_rfl) rfl rfl ?_; (try simp only [Act.put, List.setIfInBounds_toArray, List.set_cons_zero, List.set_cons_succ]))
                    (refine wpTree_qn 3 hTok hOps (by kernel_rfl) rfl rfl ?_; (try simp only [Act.put, List.setIfInBounds_toArray, List.set_cons_zero, List.set_cons_succ]))
                    (refine wpTree_qn 4 hTok hOps (by kernel_rfl) rfl rfl ?_; (try simp only [Act.put, List.setIfInBounds_toArray, List.set_cons_zero, List.set_cons_succ]))
                    (refine wpTree_qn 5 hTok hOps (by kernel_rfl) rfl rfl ?_; (try simp only [Act.put, List.setIfInBounds_toArray, List.set_cons_zero, List.set_cons_succ]))
                    (refine wpTree_qn 6 hTok hOps (by kernel_rfl) rfl rfl ?_; (try simp only [Act.put, List.setIfInBounds_toArray, List.set_cons_zero, List.set_cons_succ]))
                    (refine wpTree_qn 7 hTok hOps (by kernel_rfl) rfl rfl ?_; (try simp only [Act.put, List.setIfInBounds_toArray, List.set_cons_zero, List.set_cons_succ]))
                    (refine wpTree_qn 8 hTok hOps (by kernel_rfl) rfl rfl ?_; (try simp only [Act.put, List.setIfInBounds_toArray, List.set_cons_zero, List.set_cons_succ]))
                    (refine wpTree_qn 9 hTok hOps (by kernel_rfl) rfl rfl ?_; (try simp only [Act.put, List.setIfInBounds_toArray, List.set_cons_zero, List.set_cons_succ]))
                    (refine wpTree_qn 10 hTok hOps (by kernel_rfl) rfl rfl ?_; (try simp only [Act.put, List.setIfInBounds_toArray, List.set_cons_zero, List.set_cons_succ]))
                    refine wpTree_nil hOps (by kernel_rfl) ?_
                    refine hT.out _ _ ?_
                    simp only [List.drop_succ_cons, List.drop_zero]
                    clear hOps hT hTok
                    try clear hHeld
                    clear c0 s0 s1 s2 t0 t1 t2
                    go_wp2_with fail
                    go_roundw
                    case rel => exact ⟨_, true, rfl, hq10.1, hr10.1, hI10, hrl10, hltA, hA10, Lib.hid (by rw [hok8.out]; rfl)⟩
                    case measure => exact hm10
                  | false =>
                    by_cases hk2 : k2 < 0
                    · have dk : decide (k2 < 0) = true := by simpa using hk2
                      rw [dk] at hok8
                      clear hk2
                      refine wp_region_tree (fun wx => wx.cell? ⟨gb, 0, none⟩ = some (.slice ao n cap) ∧ wx.cell? ⟨z, 0, none⟩ = some (.int .i64 yl) ∧ wx.cell? ⟨z, 1, none⟩ = some (.int .i64 ye) ∧ wx.cell? ⟨z, 2, none⟩ = some (.int .i64 yr) ∧ wx.cell? ⟨z2, 0, none⟩ = some (.int .i64 ol) ∧ wx.cell? ⟨z2, 1, none⟩ = some (.int .i64 oe) ∧ wx.cell? ⟨z2, 2, none⟩ = some (.int .i64 orr)) 11 15 (by kernel_rfl) rfl (by kernel_rfl) (fun d _ _ _ _ h => by cases d <;> exact h) (⟨c0, s0, s1, s2, t0, t1, t2⟩) (fun opz T hOps hT hTok hHeld => ?_)
                      (refine wpTree_q 0 hTok hOps (by kernel_rfl) rfl rfl ⟨?_, ?_, ?_⟩; rotate_left; (focus (intro wx hSx; (try dsimp only at hSx); go_simp; (try with_reducible rfl))); (simp only [Act.put, List.setIfInBounds_toArray, List.set_cons_zero, List.set_cons_succ]))
                      (refine wpTree_q 1 hTok hOps (by kernel_rfl) rfl rfl ⟨?_, ?_, ?_⟩; rotate_left; (focus (intro wx hSx; (try dsimp only at hSx); go_simp; (try with_reducible rfl))); (simp only [Act.put, List.setIfInBounds_toArray, List.set_cons_zero, List.set_cons_succ]))
                      (refine wpTree_qg 2 hTok hOps (by kernel_rfl) rfl rfl ⟨?_, ?_, ?_⟩; rotate_left; (focus (intro wx hSx; (try dsimp only at hSx); go_simp; (try with_reducible rfl))); (simp only [Act.put, List.setIfInBounds_toArray, List.set_cons_zero, List.set_cons_succ]))
                      (refine wpTree_qg 3 hTok hOps (by kernel_rfl) rfl rfl ⟨?_, ?_, ?_⟩; rotate_left; (focus (intro wx hSx; (try dsimp only at hSx); go_simp; (try with_reducible rfl))); (simp only [Act.put, List.setIfInBounds_toArray, List.set_cons_zero, List.set_cons_succ]))
                      (refine wpTree_qg 4 hTok hOps (by kernel_rfl) rfl rfl ⟨?_, ?_, ?_⟩; rotate_left; (focus (intro wx hSx; (try dsimp only at hSx); go_simp; (try with_reducible rfl))); (simp only [Act.put, List.setIfInBounds_toArray, List.set_cons_zero, List.set_cons_succ]))
                      (refine wpTree_qg 5 hTok hOps (by kernel_rfl) rfl rfl ⟨?_, ?_, ?_⟩; rotate_left; (focus (intro wx hSx; (try dsimp only at hSx); go_simp; (try with_reducible rfl))); (simp only [Act.put, List.setIfInBounds_toArray, List.set_cons_zero, List.set_cons_succ]))
                      (refine wpTree_qg 6 hTok hOps (by kernel_rfl) rfl rfl ⟨?_, ?_, ?_⟩; rotate_left; (focus (intro wx hSx; (try dsimp only at hSx); go_simp; (try with_reducible rfl))); (simp only [Act.put, List.setIfInBounds_toArray, List.set_cons_zero, List.set_cons_succ]))
                      (refine wpTree_qg 7 hTok hOps (by kernel_rfl) rfl rfl ⟨?_, ?_, ?_⟩; rotate_left; (focus (intro wx hSx; (try dsimp only at hSx); go_simp; (try with_reducible rfl))); (simp only [Act.put, List.setIfInBounds_toArray, List.set_cons_zero, List.set_cons_succ]))
                      (refine wpTree_qg 8 hTok hOps (by kernel_rfl) rfl rfl ⟨?_, ?_, ?_⟩; rotate_left; (focus (intro wx hSx; (try dsimp only at hSx); go_simp; (try with_reducible rfl))); (simp only [Act.put, List.setIfInBounds_toArray, List.set_cons_zero, List.set_cons_succ]))
                      (refine wpTree_qg 9 hTok hOps (by kernel_rfl) rfl rfl ⟨?_, ?_, ?_⟩; rotate_left; (focus (intro wx hSx; (try dsimp only at hSx); go_simp; (try with_reducible rfl))); (simp only [Act.put, List.setIfInBounds_toArray, List.set_cons_zero, List.set_cons_succ]))
                      (refine wpTree_qg 10 hTok hOps (by kernel_rfl) rfl rfl ⟨?_, ?_, ?_⟩; rotate_left; (focus (intro wx hSx; (try dsimp only at hSx); go_simp; (try with_reducible rfl))); (simp only [Act.put, List.setIfInBounds_toArray, List.set_cons_zero, List.set_cons_succ]))
                      refine wpTree_nil hOps (by kernel_rfl) ?_
                      refine hT.out _ _ ?_
                      simp only [List.drop_succ_cons, List.drop_zero]
                      clear hOps hT hTok
                      try clear hHeld
                      clear c0 s0 s1 s2 t0 t1 t2
                      have hcl2 := Lib.hid (hcl.out _ hI10.bel)
                      clear hcl
                      go_wp2_with fail
                      refine hcl2.out.mono ?_
                      rintro e w11 ⟨rfl, hb11⟩
                      have hc11 := Chg.of_below hb11
                      have hI11 := hI10.chg hc11 (fun j e => Nat.le_trans hI10.bel.size e)
                      have hr11 := hr10.1.chg hc11 (by have := hr10.1.lt; omega) (by have := hr10.1.lt; omega)
                      have hq11 := hq10.1.chg hc11 (by have := hq10.1.lt; omega) (by have := hq10.1.lt; omega)
                      have hA11 := hA10.chg hc11 (by have := hA10.lt; omega)
                      have hrl11 : rb2 < w11.heap.size := by have := hb11.size; omega
                      have hm11 : w11.rangeLeft nb rb2 < wr.rangeLeft nb rb2 := by rw [hq11.2]; exact hm10
                      have hltB : w11.rangeLeft nb rb < wi.rangeLeft nb rb := by rw [hr11.2]; exact hltA
                      clear hcl2 hI10 hr10 hq10 hA10 hrl10 hm10 hltA hb11 hc11
                      dsimp only
                      go_wp2_with fail
                      go_roundw
                      case rel => exact ⟨_, bc, rfl, hq11.1, hr11.1, hI11, hrl11, hltB, hA11, Lib.hid (by rw [hok8.out]; simp)⟩
                      case measure => exact hm11
                    · have dk : decide (k2 < 0) = false := by simpa using hk2
                      rw [dk] at hok8
                      clear hk2
                      refine wp_region_tree (fun wx => wx.cell? ⟨gb, 0, none⟩ = some (.slice ao n cap)) 11 15 (by kernel_rfl) rfl (by kernel_rfl) (fun d _ _ _ _ h => by cases d <;> exact h) (c0) (fun opz T hOps hT hTok hHeld => ?_)
                      (refine wpTree_q 0 hTok hOps (by kernel_rfl) rfl rfl ⟨?_, ?_, ?_⟩; rotate_left; (focus (intro wx hSx; (try dsimp only at hSx); go_simp; (try with_reducible rfl))); (simp only [Act.put, List.setIfInBounds_toArray, List.set_cons_zero, List.set_cons_succ]))
                      (refine wpTree_q 1 hTok hOps (by kernel_rfl) rfl rfl ⟨?_, ?_, ?_⟩; rotate_left; (focus (intro wx hSx; (try dsimp only at hSx); go_simp; (try with_reducible rfl))); (simp only [Act.put, List.setIfInBounds_toArray, List.set_cons_zero, List.set_cons_succ]))
                      (refine wpTree_qg 2 hTok hOps (by kernel_rfl) rfl rfl ⟨?_, ?_, ?_⟩; rotate_left; (focus (intro wx hSx; (try dsimp only at hSx); go_simp; (try with_reducible rfl))); (simp only [Act.put, List.setIfInBounds_toArray, List.set_cons_zero, List.set_cons_succ]))
                      (refine wpTree_qg 3 hTok hOps (by kernel_rfl) rfl rfl ⟨?_, ?_, ?_⟩; rotate_left; (focus (intro wx hSx; (try dsimp only at hSx); go_simp; (try with_reducible rfl))); (simp only [Act.put, List.setIfInBounds_toArray, List.set_cons_zero, List.set_cons_succ]))
                      (refine wpTree_qg 4 hTok hOps (by kernel_rfl) rfl rfl ⟨?_, ?_, ?_⟩; rotate_left; (focus (intro wx hSx; (try dsimp only at hSx); go_simp; (try with_reducible rfl))); (simp only [Act.put, List.setIfInBounds_toArray, List.set_cons_zero, List.set_cons_succ]))
                      (refine wpTree_qn 5 hTok hOps (by kernel_rfl) rfl rfl ?_; (try simp only [Act.put, List.setIfInBounds_toArray, List.set_cons_zero, List.set_cons_succ]))
                      (refine wpTree_qn 6 hTok hOps (by kernel_rfl) rfl rfl ?_; (try simp only [Act.put, List.setIfInBounds_toArray, List.set_cons_zero, List.set_cons_succ]))
                      (refine wpTree_qn 7 hTok hOps (by kernel_rfl) rfl rfl ?_; (try simp only [Act.put, List.setIfInBounds_toArray, List.set_cons_zero, List.set_cons_succ]))
                      (refine wpTree_qn 8 hTok hOps (by kernel_rfl) rfl rfl ?_; (try simp only [Act.put, List.setIfInBounds_toArray, List.set_cons_zero, List.set_cons_succ]))
                      (refine wpTree_qn 9 hTok hOps (by kernel_rfl) rfl rfl ?_; (try simp only [Act.put, List.setIfInBounds_toArray, List.set_cons_zero, List.set_cons_succ]))
                      (refine wpTree_qn 10 hTok hOps (by kernel_rfl) rfl rfl ?_; (try simp only [Act.put, List.setIfInBounds_toArray, List.set_cons_zero, List.set_cons_succ]))
                      refine wpTree_nil hOps (by kernel_rfl) ?_
                      refine hT.out _ _ ?_
                      simp only [List.drop_succ_cons, List.drop_zero]
                      clear hOps hT hTok
                      try clear hHeld
                      clear c0 s0 s1 s2 t0 t1 t2
                      go_wp2_with fail
                      go_roundw
                      case rel => exact ⟨_, false, rfl, hq10.1, hr10.1, hI10, hrl10, hltA, hA10, Lib.hid (by rw [hok8.out]; simp)⟩
                      case measure => exact hm10
end Go.Proofs.YtjmbafcpbagpdaaGreat

/- Gossip: is there such a worker; the copies of rows. -/
namespace Go.Proofs.YtjmbafcpbagpdaaGreat
open Go.RowKit
set_option linter.unusedVariables false
set_option linter.unusedSimpArgs false

theorem there_any (k : Int) (gb vb n vc : Nat) (w : World) (c2 : w.cell? ⟨gb, 2, none⟩ = some (.slice (some ⟨vb, 0, none⟩) n vc)) :
    Calls Tryz.prog 31 #[.pointer (some ⟨gb, 0, none⟩), .int .i64 k] w fun e w' => e = .returned (.bool (decide (0 ≤ k ∧ k < n))) ∧ w' = w := by
  by_cases h1 : 0 ≤ k
  · have d1 : decide ((0 : Int) ≤ k) = true := by simpa using h1
    by_cases h2 : k < n
    · have d2 : decide (k < (n : Int)) = true := by simpa using h2
      have hR : decide (0 ≤ k ∧ k < n) = true := by simp [h1, h2]
      rw [hR]
      clear h1 h2 hR
      go_enter Tryz.func31, Tryz.ntmps31
      go_wp2_with fail
      go_ret
      exact ⟨rfl, rfl⟩
    · have d2 : decide (k < (n : Int)) = false := by simpa using h2
      have hR : decide (0 ≤ k ∧ k < n) = false := by simp [h2]
      rw [hR]
      clear h1 h2 hR
      go_enter Tryz.func31, Tryz.ntmps31
      go_wp2_with fail
      go_ret
      exact ⟨rfl, rfl⟩
  · have d1 : decide ((0 : Int) ≤ k) = false := by simpa using h1
    have hR : decide (0 ≤ k ∧ k < n) = false := by simp [h1]
    rw [hR]
    clear h1 hR
    go_enter Tryz.func31, Tryz.ntmps31
    go_wp2_with fail
    go_ret
    exact ⟨rfl, rfl⟩
/-- The value of a cell of a gossip's table of ways. -/
theorem wait_walk (k j gb : Nat) (hk : k < 8) (hj : j < 8) (w : World) (ao : Option Addr) (n cap : Nat) (hT : ∀ i : Int, (i = k ∨ i = j) → Calls Tryz.prog 31 #[.pointer (some ⟨gb, 0, none⟩), .int .i64 i] w fun e w' => e = .returned (.bool true) ∧ w' = w) (c : w.cell? ⟨gb, 3 + k * 8 + j, none⟩ = some (.slice ao n cap)) :
    Calls Tryz.prog 11 #[.pointer (some ⟨gb, 0, none⟩), .int .i64 k, .int .i64 j] w fun e w' => e = .returned (.int .i64 n) ∧ w' = w := by
  have h1 := hT k (.inl rfl)
  have h2 := hT j (.inr rfl)
  clear hT
  replace h1 := Lib.hid h1
  replace h2 := Lib.hid h2
  go_enter Tryz.func11, Tryz.ntmps11
  go_wp2_with fail
  refine h1.out.mono ?_
  rintro e w' ⟨rfl, rfl⟩
  dsimp only
  go_wp2_with fail
  refine h2.out.mono ?_
  rintro e w2 ⟨rfl, rfl⟩
  dsimp only
  go_wp2_with fail
  go_ret
  exact ⟨rfl, rfl⟩
end Go.Proofs.YtjmbafcpbagpdaaGreat

/- Gossip: one tracker is told something; one way turns. -/
namespace Go.Proofs.YtjmbafcpbagpdaaGreat
open Go.RowKit Go.Shelf Go.Maps
set_option linter.unusedVariables false
set_option linter.unusedSimpArgs false

theorem gcells_at (p : GP) (n : Nat) (ws : List Value) (i : Nat) : (gcells p n ws)[3 + i]? = ws[i]? := by
  unfold gcells
  rw [List.getElem?_toArray, show 3 + i = i + 1 + 1 + 1 by omega]
  simp
theorem gcells_set (p : GP) (n : Nat) (ws : List Value) (i : Nat) (v : Value) : (gcells p n ws).setIfInBounds (3 + i) v = gcells p n (ws.set i v) := by
  unfold gcells
  rw [List.setIfInBounds_toArray, show 3 + i = i + 1 + 1 + 1 by omega]
  simp
theorem TrF.mono {w : World} {base tb : Nat} {x : TrX} {ops : List TOp} {c : CF} {N N' : Nat} (h : TrF w base tb x ops c N) (hN : N ≤ N') : TrF w base tb x ops c N' := by
  obtain ⟨cs, h1, h2, h3⟩ := h
  exact ⟨cs, h1, h2, by omega⟩
namespace Gos
variable {w w' : World} {A U gb N M : Nat} {X : Nat → Prop} {p : GP} {ops : List TOp} {m : GM}
/-- Tracker i is told l. -/
theorem upd (h : Gos w A U X gb p ops m N M) {i : Nat} (hi : i ≤ m.n) {cs cs' : List (TStamp × Int)} {l : List TCount} {N' : Nat} (hc : Chg (fun k => k = (p.tp i).x.mb) w w') (h0 : cntC cs = m.c i) (hN : N ≤ N') (hT : Tr w' (p.tp i).base (p.tp i).tb (p.tp i).x ops cs') (hcnt : ∀ s, cntC cs' s = wrap64 (cntC cs s + totC l s)) (hlen : cs'.length ≤ N') :
    Gos w' A U X gb p ops ⟨m.n, fun j => if j = i then addF (m.c i) l else m.c j, m.wy⟩ N' M := by
  have hs := hc.size
  obtain ⟨ws, b1, b2⟩ := h.blk
  obtain ⟨cs2, v1, v2⟩ := h.vws
  obtain ⟨g1, g2, g3, g4⟩ := h.inG
  obtain ⟨t1, t2, t3⟩ := h.trs i hi
  have hiA := h.inT i hi
  have hbm := hT.bmb
  have hmU : (p.tp i).x.mb < U := by omega
  refine ⟨h.n1, h.n8, ⟨ws, b1.chg hc (fun e => h.dg i hi ⟨by omega, by omega⟩), ⟨b2.len, fun j v hv => (b2.at' j v hv).chg hc (fun b hb e => by have := (h.xU b hb).1; omega), b2.ne⟩⟩, ⟨cs2, v1.chg hc (fun e => h.dv i hi ⟨by omega, by omega⟩), v2⟩, h.gr.chg hc (fun k hk e => by have := h.dtr i hi; omega), fun j hj => ?_, h.dis, h.dg, h.dv, h.dgr, h.dtr, h.inT, h.inG, fun k hk => ⟨(h.xU k hk).1, by have := (h.xU k hk).2; omega⟩, by have := h.uw; omega, h.ok⟩
  show TrI w' (p.tp j) ops (if j = i then addF (m.c i) l else m.c j) N'
  by_cases e : j = i
  · subst e
    rw [if_pos rfl]
    exact ⟨⟨cs', hT, funext fun s => by rw [hcnt s, h0]; rfl, hlen⟩, t2, t3⟩
  · rw [if_neg e]
    obtain ⟨u1, u2, u3⟩ := h.trs j hj
    refine ⟨(u1.chgR hc (fun k hk e2 => ?_) u2 u3).mono (by omega), u2, u3⟩
    rcases Nat.lt_or_gt_of_ne e with x | x
    · have := h.dis j i x hi; omega
    · have := h.dis i j x hj; omega
/-- Way i0 turns: its row (and what is new) may turn, then its cell. -/
theorem setWay (h : Gos w A U X gb p ops m N M) {ws : List Value} (hB : Blk w gb (gcells p m.n ws) 83) (hW : Ways w U X ws m.wy M) {i0 : Nat} {v v' : Value} (hi : i0 < 64) (hv : ws[i0]? = some v) {S : Nat → Prop} {w3 : World} (hc : Chg S w w3) (hS : ∀ k, S k → v.ownBlock = some k)
    {X' : Nat → Prop} (hX : ∀ k, X k → X' k) (hX' : ∀ k, X' k → X k ∨ (w.heap.size ≤ k ∧ k < w3.heap.size)) {Ls : List (List TCount)} (hN : WayV w3 U X' v' Ls M) (hp : ∀ g, v'.ownBlock = some g → v.ownBlock = some g ∨ w.heap.size ≤ g) :
    Gos (w3.setCell ⟨gb, 3 + i0, none⟩ v') A U X' gb p ops ⟨m.n, m.c, fun i => if i = i0 then Ls else m.wy i⟩ N M := by
  obtain ⟨g1, g2, g3, g4⟩ := h.inG
  have hvw := hW.at' i0 v hv
  have hvX : ∀ k, v.ownBlock = some k → U ≤ k ∧ k < w.heap.size := hvw.lt
  have huw := h.uw
  have hs := hc.size
  have hB3 : Blk w3 gb (gcells p m.n ws) 83 := hB.chg hc (fun e => by have := hvX _ (hS _ e); omega)
  have hB4 := hB3.set (3 + i0) v'
  rw [gcells_set] at hB4
  have hc4 : Chg (fun k => v.ownBlock = some k ∨ k = gb) w (w3.setCell ⟨gb, 3 + i0, none⟩ v') := (hc.mono (fun k _ e => .inl (hS k e))).setCell ⟨gb, 3 + i0, none⟩ v' (fun _ => .inr rfl)
  have hc34 : Chg (fun k => k = gb) w3 (w3.setCell ⟨gb, 3 + i0, none⟩ v') := (Chg.refl (fun k => k = gb) w3).setCell ⟨gb, 3 + i0, none⟩ v' (fun _ => rfl)
  have hs4 := hc4.size
  obtain ⟨cs2, v1, v2⟩ := h.vws
  have hXU : ∀ k, X' k → U ≤ k ∧ k < (w3.setCell ⟨gb, 3 + i0, none⟩ v').heap.size := fun k hk => by
    have := hc34.size
    rcases hX' k hk with e | e
    · have := h.xU k e; omega
    · omega
  refine ⟨h.n1, h.n8, ⟨ws.set i0 v', hB4, ⟨by rw [List.length_set]; exact hW.len, fun i u hu => ?_, fun i j a b g hij ha hb hg => ?_⟩⟩, ⟨cs2, v1.chg hc4 (fun e => by
      rcases e with e | e
      · have := hvX _ e; omega
      · exact h.dgr.2.2 e.symm), v2⟩, h.gr.chg hc4 (fun k hk e => by
      rcases hk with hk | rfl
      · have := hvX _ hk; omega
      · exact h.dgr.1 e), fun i hi => ?_, h.dis, h.dg, h.dv, h.dgr, h.dtr, h.inT, h.inG, hXU, by omega, h.ok⟩
  · show WayV _ U X' u (if i = i0 then Ls else m.wy i) M
    rw [List.getElem?_set] at hu
    by_cases e : i0 = i
    · subst e
      rw [if_pos rfl, if_pos (by rw [hW.len]; exact hi)] at hu
      cases hu
      rw [if_pos rfl]
      exact hN.chg hc34 (fun b hb e => by
        have := hXU b hb
        omega)
    · rw [if_neg e] at hu
      rw [if_neg (fun x => e x.symm)]
      refine ((hW.at' i u hu).chg2 hc4 (fun b hb hk => ?_) (fun b hk => ?_)).sub hX
      · rcases hk with hk | rfl
        · exact hW.ne i0 i v u b e hv hu hk hb
        · have := (hW.at' i u hu).lt _ hb; omega
      · rintro ⟨cells, hcells⟩
        rcases hk with hk | rfl
        · obtain ⟨_, ps, o1, _⟩ := hvw
          exact o1.ne_blk hcells (by decide) hk
        · unfold Blk at hB hcells
          rw [hB] at hcells
          simp only [Option.some.injEq, Obj.cells.injEq] at hcells
          exact absurd hcells.2.1 (by decide)
  · rw [List.getElem?_set] at ha hb
    by_cases ei : i0 = i
    · subst ei
      rw [if_pos rfl, if_pos (by rw [hW.len]; exact hi)] at ha
      cases ha
      rw [if_neg hij] at hb
      rcases hp g hg with e | e
      · exact hW.ne i0 j v b g hij hv hb e
      · intro e2
        have := (hW.at' j b hb).lt g e2
        omega
    · rw [if_neg ei] at ha
      by_cases ej : i0 = j
      · subst ej
        rw [if_pos rfl, if_pos (by rw [hW.len]; exact hi)] at hb
        cases hb
        intro e2
        have hgl := (hW.at' i a ha).lt g hg
        rcases hp g e2 with e | e
        · exact hW.ne i0 i v a g ei hv ha e hg
        · omega
      · rw [if_neg ej] at hb
        exact hW.ne i j a b g hij ha hb hg
  · obtain ⟨u1, u2, u3⟩ := h.trs i hi
    refine ⟨u1.chgR hc4 (fun k hk e => ?_) u2 u3, u2, u3⟩
    rcases hk with hk | rfl
    · have := hvX _ hk
      have := h.inT i hi
      omega
    · exact h.dg i hi e
end Gos
end Go.Proofs.YtjmbafcpbagpdaaGreat
