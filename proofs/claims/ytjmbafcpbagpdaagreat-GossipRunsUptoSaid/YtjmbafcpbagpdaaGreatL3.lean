/- Maps as lists of entries, in whatever order: keys of a type of our own, the elements as they lie in the map. -/
import Derived.Test.YtjmbafcpbagpdaaGreatL1
import Derived.Maps.OwnSet
import Derived.Maps.RangeWalk
import Derived.DeepKeys4
import Derived.WideKeyEntry
namespace Go
open Go.RowKit Go.Maps Go.ChangeMaps Go.MapKept
set_option linter.unusedVariables false

/-- How the keys of a map's type are read. -/
structure KeyL {κ : Type} (P : Program) (k : TypeId) (mk : κ → Value) (kl : κ → Lit) (wf : κ → Prop) : Prop where
  law : WideMaps.KeyLaw P k
  key : ∀ x, wf x → keyOf P k (mk x) = some (kl x)
  inv : ∀ v l, keyOf P k v = some l → ∃ x, wf x ∧ v = mk x ∧ l = kl x
  inj : ∀ x y, mk x = mk y → x = y

namespace KeyL
variable {κ : Type} {P : Program} {k : TypeId} {mk : κ → Value} {kl : κ → Lit} {wf : κ → Prop} (h : KeyL P k mk kl wf)
include h
theorem K : Keyed P k := Keyed.of_law h.law
theorem lit {x : κ} (hx : wf x) : WideAt.IsKeyLit (kl x) := h.K.key (h.key x hx)
theorem kinj {x y : κ} (hx : wf x) (hy : wf y) (e : kl x = kl y) : x = y := h.inj _ _ (h.K.inj (h.key x hx) (by rw [e]; exact h.key y hy))
theorem same {x y : κ} (hx : wf x) (hy : wf y) : (kl x).sameKey (kl y) = true ↔ x = y :=
  (WideAt.sameKey_iff (h.lit hy)).trans ⟨h.kinj hx hy, fun e => by rw [e]⟩
end KeyL

/-- An element as it lies in the map. -/
def rawE (v : Value) : Option (DataW Value × List MemPlace) := some (.held v, [])
def encKV {κ : Type} (kl : κ → Lit) (e : κ × Value) : Lit × DataW Value := (kl e.1, .held e.2)

/-- Block b is a map of just these entries. -/
structure MapL {κ : Type} (P : Program) (k : TypeId) (kl : κ → Lit) (wf : κ → Prop) (w : World) (b : Nat) (es : List (κ × Value)) : Prop where
  own : ∃ l, w.ownsMap P k rawE b es.length (.map l) ∧ l.Perm (es.map (encKV kl))
  nodup : (es.map Prod.fst).Nodup
  wf : ∀ x ∈ es, wf x.1

section
variable {κ : Type} [DecidableEq κ] {P : Program} {k t e : TypeId} {mk : κ → Value} {kl : κ → Lit} {wf : κ → Prop} {w w' : World} {b : Nat} {es : List (κ × Value)}

def getE (es : List (κ × Value)) (x : κ) : Option Value := (es.find? (fun p => decide (p.1 = x))).map Prod.snd
def delE (es : List (κ × Value)) (x : κ) : List (κ × Value) := es.filter (fun p => !decide (p.1 = x))
def setE (es : List (κ × Value)) (x : κ) (v : Value) : List (κ × Value) := (x, v) :: delE es x

theorem getE_mem {x : κ} {v : Value} (h : getE es x = some v) : (x, v) ∈ es := by
  unfold getE at h
  obtain ⟨p, hp, rfl⟩ := Option.map_eq_some_iff.1 h
  have h1 := List.find?_some hp
  have h2 := List.mem_of_find?_eq_some hp
  simp only [decide_eq_true_eq] at h1
  subst h1
  exact h2
omit [DecidableEq κ] in
theorem nodup_unique : ∀ {es : List (κ × Value)} (hn : (es.map Prod.fst).Nodup) {x : κ} {u v : Value}, (x, u) ∈ es → (x, v) ∈ es → u = v
  | [], _, x, u, v, h, _ => by cases h
  | p :: r, hn, x, u, v, hu, hv => by
    simp only [List.map_cons, List.nodup_cons] at hn
    have h1 : ∀ y, (x, y) ∈ r → x ∈ r.map Prod.fst := fun y hy => List.mem_map.2 ⟨_, hy, rfl⟩
    rcases List.mem_cons.1 hu with e1 | hu
    · rcases List.mem_cons.1 hv with e2 | hv
      · rw [← e1] at e2; cases e2; rfl
      · exact absurd (by rw [← e1]; exact h1 _ hv) hn.1
    · rcases List.mem_cons.1 hv with e2 | hv
      · exact absurd (by rw [← e2]; exact h1 _ hu) hn.1
      · exact nodup_unique hn.2 hu hv
theorem getE_of_mem (hn : (es.map Prod.fst).Nodup) {x : κ} {v : Value} (h : (x, v) ∈ es) : getE es x = some v := by
  cases hg : getE es x with
  | none =>
    unfold getE at hg
    simp only [Option.map_eq_none_iff, List.find?_eq_none, decide_eq_true_eq] at hg
    exact absurd rfl (hg _ h)
  | some u => rw [nodup_unique hn (getE_mem hg) h]
theorem getE_none {x : κ} : getE es x = none ↔ ∀ p ∈ es, p.1 ≠ x := by
  unfold getE
  simp [List.find?_eq_none]
theorem delE_nodup (hn : (es.map Prod.fst).Nodup) (x : κ) : ((delE es x).map Prod.fst).Nodup := (List.Sublist.map Prod.fst List.filter_sublist).nodup hn
theorem mem_delE {x : κ} {p : κ × Value} : p ∈ delE es x ↔ p ∈ es ∧ p.1 ≠ x := by
  unfold delE
  simp [List.mem_filter]
theorem setE_nodup (hn : (es.map Prod.fst).Nodup) (x : κ) (v : Value) : ((setE es x v).map Prod.fst).Nodup := by
  unfold setE
  rw [List.map_cons, List.nodup_cons]
  refine ⟨fun hm => ?_, delE_nodup hn x⟩
  obtain ⟨p, hp, e⟩ := List.mem_map.1 hm
  exact (mem_delE.1 hp).2 e
theorem getE_setE (x y : κ) (v : Value) : getE (setE es x v) y = if x = y then some v else getE es y := by
  unfold setE getE
  rw [List.find?_cons]
  by_cases h : x = y
  · simp [h]
  · simp only [h, decide_false, if_false]
    congr 1
    unfold delE
    induction es with
    | nil => rfl
    | cons p r ih =>
      rw [List.filter_cons]
      by_cases hpx : p.1 = x
      · simp only [hpx, decide_true, Bool.not_true, Bool.false_eq_true, if_false]
        rw [ih, List.find?_cons, hpx]
        simp [h]
      · simp only [hpx, decide_false, Bool.not_false, if_true]
        rw [List.find?_cons, List.find?_cons, ih]
theorem perm_find {l : List (Lit × DataW Value)} (hK : KeyL P k mk kl wf) (hp : l.Perm (es.map (encKV kl))) (hn : (es.map Prod.fst).Nodup) (hw : ∀ x ∈ es, wf x.1) {x : κ} (hx : wf x) :
    l.find? (fun p => p.1.sameKey (kl x)) = (getE es x).map (fun v => (kl x, .held v)) := by
  cases hf : l.find? (fun p => p.1.sameKey (kl x)) with
  | none =>
    have h1 : getE es x = none := getE_none.2 (fun p hpm e => by
      have h2 := List.find?_eq_none.1 hf (encKV kl p) (hp.mem_iff.2 (List.mem_map.2 ⟨p, hpm, rfl⟩))
      exact h2 ((hK.same (hw p hpm) hx).2 e))
    rw [h1]
    rfl
  | some q =>
    have h1 := List.find?_some hf
    have h2 := hp.mem_iff.1 (List.mem_of_find?_eq_some hf)
    obtain ⟨⟨y, v⟩, hym, rfl⟩ := List.mem_map.1 h2
    obtain rfl : y = x := (hK.same (hw _ hym) hx).1 h1
    rw [getE_of_mem hn hym]
    rfl

namespace MapL
variable (hK : KeyL P k mk kl wf)
omit [DecidableEq κ] in
theorem lt (h : MapL P k kl wf w b es) : b < w.heap.size := by
  obtain ⟨l, ho, _⟩ := h.own
  exact ho.lt
omit [DecidableEq κ] in
theorem made (w : World) : MapL P k kl wf (w.alloc (.map #[] 0)) w.heap.size [] := ⟨⟨[], World.ownsMap_made w P k rawE, .refl _⟩, List.nodup_nil, fun _ h => by cases h⟩
omit [DecidableEq κ] in
theorem perm {es' : List (κ × Value)} (h : MapL P k kl wf w b es) (hp : es.Perm es') : MapL P k kl wf w b es' := by
  obtain ⟨l, ho, hl⟩ := h.own
  exact ⟨⟨l, hp.length_eq ▸ ho, hl.trans (hp.map _)⟩, (hp.map Prod.fst).nodup_iff.1 h.nodup, fun x hx => h.wf x (hp.mem_iff.2 hx)⟩
omit [DecidableEq κ] in
theorem chg {S : Nat → Prop} (h : MapL P k kl wf w b es) (hc : Chg S w w') (hS : ¬ S b) : MapL P k kl wf w' b es := by
  obtain ⟨l, ho, hl⟩ := h.own
  obtain ⟨ms, clock, hb, r⟩ := ho
  exact ⟨⟨l, ⟨ms, clock, (hc.block b (Array.getElem?_eq_some_iff.1 hb).1 hS).trans hb, r⟩, hl⟩, h.nodup, h.wf⟩
omit [DecidableEq κ] in
theorem below {B : Nat} (h : MapL P k kl wf w b es) (hb : Below B w w') (hB : b < B) : MapL P k kl wf w' b es := h.chg (Chg.of_below hb) (by omega)
omit [DecidableEq κ] in
theorem obj (h : MapL P k kl wf w b es) : ∃ ms clock, w.heap[b]? = some (.map ms clock) := by
  obtain ⟨l, ⟨ms, clock, hb, _⟩, _⟩ := h.own
  exact ⟨ms, clock, hb⟩
omit [DecidableEq κ] in
theorem ne_blk (h : MapL P k kl wf w b es) {c : Nat} {cs : Array Value} {T : TypeId} (hc : Blk w c cs T) : b ≠ c := by
  rintro rfl
  obtain ⟨ms, clock, hb⟩ := h.obj
  unfold Blk at hc
  rw [hb] at hc
  cases hc
include hK
/-- A look-up. -/
theorem look (h : MapL P k kl wf w b es) (ht : P.underlying t = some (.map k e)) {z : Value} (hz : (zeroValue e).run P w = .ok z w) {x : κ} (hx : wf x) (c : Bool) :
    (Instr.lookup t (.map (some b)) (mk x) c).run P w = .ok (if c then .tuple #[(getE es x).getD z, .bool (getE es x).isSome] else (getE es x).getD z) w := by
  obtain ⟨l, ho, hl⟩ := h.own
  have hf := perm_find hK hl h.nodup h.wf hx
  have hhas : Maps.has (DataW.map l) (kl x) = (getE es x).isSome := by
    rw [Maps.has_eq]
    cases hg : getE es x with
    | none =>
      rw [hg] at hf
      simp only [Option.isSome_none, List.any_eq_false]
      exact fun p hp => List.find?_eq_none.1 hf p hp
    | some v =>
      rw [hg] at hf
      have h1 := List.mem_of_find?_eq_some hf
      have h2 := List.find?_some hf
      exact List.any_eq_true.2 ⟨_, h1, h2⟩
  have hat : (DataW.map l).atKey (kl x) (.held z) = .held ((getE es x).getD z) := by
    unfold DataW.atKey
    simp only [hf]
    cases getE es x <;> rfl
  cases c with
  | false =>
    obtain ⟨v, ps, hrun, hv⟩ := ho.lookup hK.K ht hz (zd := .held z) (zp := []) rfl (hK.key x hx)
    rw [hat] at hv
    unfold rawE at hv
    simp only [Option.some.injEq, Prod.mk.injEq, DataW.held.injEq] at hv
    rw [hrun, hv.1]
    rfl
  | true =>
    obtain ⟨v, ps, hrun, hv⟩ := ho.look_ok hK.K ht hz (zd := .held z) (zp := []) rfl (hK.key x hx)
    rw [hat] at hv
    unfold rawE at hv
    simp only [Option.some.injEq, Prod.mk.injEq, DataW.held.injEq] at hv
    rw [hrun, hv.1, hhas]
    rfl
omit [DecidableEq κ] hK in
theorem own_len {l : List (Lit × DataW Value)} {n : Nat} (ho : w.ownsMap P k rawE b n (.map l)) : w.ownsMap P k rawE b l.length (.map l) := by
  obtain ⟨ms, clock, hb, F, hs, hD⟩ := ho
  refine ⟨ms, clock, hb, F, ?_, hD⟩
  simp only [DataW.map.injEq] at hD
  rw [hD, length_sorted]
  simp
theorem filter_perm {l : List (Lit × DataW Value)} (hl : l.Perm (es.map (encKV kl))) (hw : ∀ x ∈ es, wf x.1) {x : κ} (hx : wf x) : (l.filter fun p => !p.1.sameKey (kl x)).Perm ((delE es x).map (encKV kl)) := by
  refine (hl.filter _).trans ?_
  rw [List.filter_map]
  refine List.Perm.map _ ?_
  unfold delE
  refine List.Perm.of_eq (List.filter_congr (fun p hp => ?_))
  have := hK.same (hw p hp) hx
  simp only [Function.comp, encKV]
  cases h1 : (kl p.1).sameKey (kl x) with
  | true => rw [this.1 h1]; simp
  | false =>
    have : p.1 ≠ x := fun e => by rw [this.2 e] at h1; cases h1
    simp [this]
/-- A store. -/
theorem store (h : MapL P k kl wf w b es) (ht : P.underlying t = some (.map k e)) (hn : es.length < maxLen) {x : κ} (hx : wf x) (v : Value) :
    ∃ w', (Instr.mapUpdate t (.map (some b)) (mk x) v).run P w = .ok () w' ∧ MapL P k kl wf w' b (setE es x v) ∧ w.mapTurned w' b := by
  obtain ⟨l, ho, hl⟩ := h.own
  obtain ⟨w', hrun, h1, h2⟩ := ho.store hK.K ht hn (hK.key x hx) (val := v) (d := .held v) (ps := []) rfl
  have hp : (DataW.insert (kl x, DataW.held v) (l.filter fun p => !p.1.sameKey (kl x))).Perm ((setE es x v).map (encKV kl)) :=
    (WideShapes.insert_perm _ _).trans ((filter_perm hK hl h.wf hx).cons _)
  refine ⟨w', hrun, ⟨⟨_, ?_, hp⟩, setE_nodup h.nodup x v, fun y hy => ?_⟩, h2⟩
  · have := own_len h1
    rw [hp.length_eq, List.length_map] at this
    exact this
  · rcases List.mem_cons.1 hy with rfl | hy
    · exact hx
    · exact h.wf y (mem_delE.1 hy).1
/-- A removal. -/
theorem drop (h : MapL P k kl wf w b es) (ht : P.underlying t = some (.map k e)) {x : κ} (hx : wf x) (ty : TypeId) :
    ∃ w', (Builtin.delete_ #[t, k] ty #[.map (some b), mk x]).run P w = .ok (.tuple #[]) w' ∧ MapL P k kl wf w' b (delE es x) ∧ w.mapTurned w' b := by
  obtain ⟨l, ho, hl⟩ := h.own
  obtain ⟨w', hrun, h1, h2⟩ := ho.drop hK.K ht (hK.key x hx) ty
  have hp := filter_perm hK hl h.wf hx
  refine ⟨w', hrun, ⟨⟨_, ?_, hp⟩, delE_nodup h.nodup x, fun y hy => h.wf y (mem_delE.1 hy).1⟩, h2⟩
  have := own_len h1
  rw [hp.length_eq, List.length_map] at this
  exact this
omit hK
omit [DecidableEq κ] in
theorem len (h : MapL P k kl wf w b es) (ht : P.underlying t = some (.map k e)) (ty : TypeId) : (Builtin.len_ #[t] ty #[.map (some b)]).run P w = .ok (.int .i64 es.length) w := by
  obtain ⟨l, ho, hl⟩ := h.own
  rw [ho.len ht ty, Maps.size_eq, hl.length_eq, List.length_map]
end MapL
theorem turned_chg (h : w.mapTurned w' b) : Chg (fun j => j = b) w w' := (Chg.of_grown h.grown).mono (fun j _ e => (Option.some.inj e).symm)

/-- A range over a map under way: 'rest' is what is still to come. -/
structure RangeL {κ : Type} (P : Program) (k : TypeId) (kl : κ → Lit) (wf : κ → Prop) (w : World) (b r : Nat) (es rest : List (κ × Value)) : Prop where
  own : ∃ l left cnt, w.ranges P k rawE b r es.length (.map l) left cnt ∧ l.Perm (es.map (encKV kl)) ∧ (∀ p ∈ es, left (kl p.1) = true ↔ p ∈ rest) ∧ cnt = w.rangeLeft b r
  nodup : (es.map Prod.fst).Nodup
  wf : ∀ x ∈ es, wf x.1
  sub : ∀ p ∈ rest, p ∈ es
  rnodup : (rest.map Prod.fst).Nodup
namespace RangeL
variable {r : Nat} {rest : List (κ × Value)}
omit [DecidableEq κ] in
theorem owns (h : RangeL P k kl wf w b r es rest) : MapL P k kl wf w b es := by
  obtain ⟨l, left, cnt, hr, hl, _⟩ := h.own
  exact ⟨⟨l, hr.owns, hl⟩, h.nodup, h.wf⟩
omit [DecidableEq κ] in
theorem lt (h : RangeL P k kl wf w b r es rest) : r < w.heap.size ∧ b < w.heap.size := by
  obtain ⟨l, left, cnt, hr, hl, _⟩ := h.own
  exact ⟨hr.lt, hr.owns.lt⟩
omit [DecidableEq κ] in
theorem chg {S : Nat → Prop} (h : RangeL P k kl wf w b r es rest) (hc : Chg S w w') (hb : ¬ S b) (hr' : ¬ S r) : RangeL P k kl wf w' b r es rest ∧ w'.rangeLeft b r = w.rangeLeft b r := by
  obtain ⟨l, left, cnt, hr, hl, hlf, hcnt⟩ := h.own
  obtain ⟨ms, clock, since, seen, c0, h1, h2, h3, h4, h5, h6⟩ := hr
  have e1 := hc.block b (Array.getElem?_eq_some_iff.1 h1).1 hb
  have e2 := hc.block r (Array.getElem?_eq_some_iff.1 h5).1 hr'
  have e3 : w'.rangeLeft b r = w.rangeLeft b r := by unfold World.rangeLeft; rw [e1, e2]
  exact ⟨⟨⟨l, left, cnt, ⟨ms, clock, since, seen, c0, e1.trans h1, h2, h3, h4, e2.trans h5, h6⟩, hl, hlf, by rw [e3]; exact hcnt⟩, h.nodup, h.wf, h.sub, h.rnodup⟩, e3⟩
omit [DecidableEq κ] in
theorem start (hK : KeyL P k mk kl wf) (h : MapL P k kl wf w b es) (ht : P.underlying t = some (.map k e)) :
    ∃ w', (Instr.range t (.map (some b))).run P w = .ok (.pointer (some ⟨w.heap.size, 0, none⟩)) w' ∧ RangeL P k kl wf w' b w.heap.size es es ∧ Below w.heap.size w w' ∧ w'.heap.size = w.heap.size + 1 := by
  obtain ⟨l, ho, hl⟩ := h.own
  obtain ⟨w', hrun, hr, hg, hs⟩ := ho.range hK.K ht
  refine ⟨w', hrun, ⟨⟨l, _, _, hr, hl, fun p hp => ⟨fun _ => hp, fun _ => ?_⟩, hr.left_eq.symm⟩, h.nodup, h.wf, fun _ h => h, h.nodup⟩, (Below.refl _ _).grown hg (Nat.le_refl _) (fun g e => by cases e), hs⟩
  rw [Maps.has_eq]
  exact List.any_eq_true.2 ⟨encKV kl p, hl.mem_iff.2 (List.mem_map.2 ⟨p, hp, rfl⟩), (hK.same (h.wf p hp) (h.wf p hp)).2 rfl⟩
/-- The step. -/
theorem next (hK : KeyL P k mk kl wf) (h : RangeL P k kl wf w b r es rest) (ty : TypeId) :
    (rest = [] ∧ (Instr.next (.pointer (some ⟨r, 0, none⟩)) false ty).run P w = .ok (.tuple #[.bool false]) w) ∨
    ∃ x v w', (x, v) ∈ rest ∧ wf x ∧ (Instr.next (.pointer (some ⟨r, 0, none⟩)) false ty).run P w = .ok (.tuple #[.bool true, mk x, v]) w' ∧ RangeL P k kl wf w' b r es (delE rest x) ∧
      w'.rangeLeft b r < w.rangeLeft b r ∧ Chg (fun j => j = r) w w' ∧ w'.heap.size = w.heap.size ∧ (Instr.entry (.pointer (some ⟨r, 0, none⟩))).run P w' = .ok (.tuple #[mk x, v]) w' := by
  obtain ⟨l, left, cnt, hr, hl, hlf, hcnt⟩ := h.own
  rcases hr.next hK.K ty with ⟨h0, hno, hrun⟩ | ⟨key, v, kv, y, w', cnt', hkey, hlk, hv, hat, hrun, hrg, hlt, hg, hsz, hen⟩
  · refine .inl ⟨?_, hrun⟩
    cases rest with
    | nil => rfl
    | cons p q =>
      have := (hlf p (h.sub p (List.mem_cons_self ..))).2 (List.mem_cons_self ..)
      rw [hno] at this
      cases this
  · obtain ⟨x, hx, rfl, rfl⟩ := hK.inv key kv hkey
    unfold rawE at hv
    simp only [Option.some.injEq] at hv
    subst hv
    have hfd := perm_find hK hl h.nodup h.wf hx
    have hmem : (x, v) ∈ es := by
      cases hgx : getE es x with
      | none =>
        rw [hgx] at hfd
        have := hat (.held undef)
        unfold DataW.atKey at this
        simp only [hfd] at this
        have h2 := hat .nil
        unfold DataW.atKey at h2
        simp only [hfd, Option.map_none] at h2
        cases h2
      | some u =>
        rw [hgx] at hfd
        have h2 := hat .nil
        unfold DataW.atKey at h2
        simp only [hfd, Option.map_some, DataW.held.injEq] at h2
        rw [← h2]
        exact getE_mem hgx
    have hxr : (x, v) ∈ rest := (hlf _ hmem).1 hlk
    refine .inr ⟨x, v, w', hxr, hx, hrun, ⟨⟨l, _, cnt', hrg, hl, fun p hp => ?_, hrg.left_eq.symm⟩, h.nodup, h.wf, fun p hp => h.sub p (mem_delE.1 hp).1, delE_nodup h.rnodup x⟩, ?_, (Chg.of_grown hg).mono (fun j _ e => (Option.some.inj e).symm), hsz, hen⟩
    · simp only [Bool.and_eq_true, Bool.not_eq_true', mem_delE]
      rw [hlf p hp]
      refine and_congr_right (fun hpr => ?_)
      have := hK.same (h.wf p hp) hx
      cases hs : (kl p.1).sameKey (kl x) with
      | true => simp [this.1 hs]
      | false =>
        have : p.1 ≠ x := fun e => by rw [this.2 e] at hs; cases hs
        simp [this]
    · rw [hrg.left_eq, hr.left_eq]
      exact hlt
theorem del_perm {x : κ} {v : Value} (hn : (rest.map Prod.fst).Nodup) (h : (x, v) ∈ rest) : rest.Perm ((x, v) :: delE rest x) := by
  induction rest with
  | nil => cases h
  | cons p q ih =>
    rw [List.map_cons, List.nodup_cons] at hn
    unfold delE
    rw [List.filter_cons]
    rcases List.mem_cons.1 h with rfl | h
    · simp only [decide_true, Bool.not_true, Bool.false_eq_true, if_false]
      have : q.filter (fun p => !decide (p.1 = x)) = q := List.filter_eq_self.2 (fun p hp => by
        simp only [Bool.not_eq_true', decide_eq_false_iff_not]
        exact fun e => hn.1 (List.mem_map.2 ⟨p, hp, e⟩))
      rw [this]
    · have hne : p.1 ≠ x := fun e => hn.1 (List.mem_map.2 ⟨_, h, e.symm⟩)
      simp only [hne, decide_false, Bool.not_false, if_true]
      exact ((ih hn.2 h).cons p).trans (.swap _ _ _)
end RangeL

/-- 'm[k] += v': the entry is fetched, then stored. -/
theorem MapL.entry (hK : KeyL P k mk kl wf) (h : MapL P k kl wf w b es) (ht : P.underlying t = some (.map k e)) {z : Value} (hz : ∀ u : World, (zeroValue e).run P u = .ok z u) (hn : es.length < maxLen) {x : κ} (hx : wf x) :
    ∃ v0 st w1, (Instr.mapEntry t (.map (some b)) (mk x)).run P w = .ok (.tuple #[v0, goInt st]) w1 ∧ Chg (fun j => j = b) w w1 ∧
      ∀ val, ∃ w2, (Instr.entryStore t (.map (some b)) (goInt st) val).run P w1 = .ok () w2 ∧ MapL P k kl wf w2 b (setE es x val) ∧ Chg (fun j => j = b) w w2 := by
  obtain ⟨l, ⟨ms, clock, hb, F, hs, hD⟩, hl⟩ := h.own
  obtain ⟨v0, st, es1, clock1, h1, _, h3⟩ := WideElems.entry_then_store (w := w) hK.law ht hz hb F (hK.key x hx)
  have hc1 : Chg (fun j => j = b) w (setBlock w b (.map es1 clock1)) := ⟨rfl, rfl, rfl, by simp [setBlock], fun j _ hj => heap_setBlock_other hb _ hj⟩
  refine ⟨v0, st, _, h1, hc1, fun val => ?_⟩
  obtain ⟨es', clock', h4, h5⟩ := h3 (setBlock w b (.map es1 clock1)) val (heap_setBlock_same hb _)
  obtain ⟨w', h6, h7, h8⟩ := h.store hK ht hn hx val
  rw [h5] at h6
  simp only [Result.ok.injEq, true_and] at h6
  have hss : setBlock (setBlock w b (.map es1 clock1)) b (.map es' clock') = setBlock w b (.map es' clock') := by simp [setBlock]
  rw [hss] at h4
  rw [h6] at h4
  exact ⟨w', h4, h7, turned_chg h8⟩

section
variable {ops : Array Oper} {rest : List Oper} {o : Oper} {a : Act} {Q : Exit → Act → World → Prop}
theorem wpList_lookupL (hg : o.guard = none) (m y : Operand) (t : TypeId) (c : Bool) (hop : o.op = Op.lookup t m y c) (hK : KeyL P k mk kl wf) (h : MapL P k kl wf w b es) (ht : P.underlying t = some (.map k e)) {z : Value} (hz : (zeroValue e).run P w = .ok z w) {x : κ} (hx : wf x)
    (hm : a.eval m = .map (some b)) (hy : a.eval y = mk x)
    (hc : wpList P ops Q rest (a.put o.dst (if c then .tuple #[(getE es x).getD z, .bool (getE es x).isSome] else (getE es x).getD z)) w) : wpList P ops Q (o :: rest) a w := by
  refine wpList_plain hg fun K' hK' => ?_
  have h1 := h.look hK ht hz hx c
  unfold Oper.wp
  simp only [execOp, hop, hm, hy]
  simp [h1, Result.andThen]
  exact hK' _ _ hc
theorem wpList_deleteL (hg : o.guard = none) (m y : Operand) (t : TypeId) (hop : o.op = Op.call { callee := Callee.builtin Builtin.delete, args := #[m, y], argTypes := #[t, k] }) (hK : KeyL P k mk kl wf) (h : MapL P k kl wf w b es) (ht : P.underlying t = some (.map k e)) {x : κ} (hx : wf x)
    (hm : a.eval m = .map (some b)) (hy : a.eval y = mk x)
    (hc : ∀ w', MapL P k kl wf w' b (delE es x) → Chg (fun j => j = b) w w' → wpList P ops Q rest (a.put o.dst (.tuple #[])) w') : wpList P ops Q (o :: rest) a w := by
  refine wpList_plain hg fun K' hK' => ?_
  obtain ⟨w', h1, h2, h3⟩ := h.drop hK ht hx o.type
  unfold Oper.wp
  simp [execOp, hop, resolve, invoke, builtin, hm, hy, h1, Result.andThen]
  exact hK' _ _ (hc w' h2 (turned_chg h3))
omit [DecidableEq κ] in
theorem wpList_rangeL (hg : o.guard = none) (m : Operand) (t : TypeId) (hop : o.op = Op.range t m) (hK : KeyL P k mk kl wf) (h : MapL P k kl wf w b es) (ht : P.underlying t = some (.map k e)) (hm : a.eval m = .map (some b))
    (hc : ∀ w', RangeL P k kl wf w' b w.heap.size es es → Below w.heap.size w w' → w'.heap.size = w.heap.size + 1 → wpList P ops Q rest (a.put o.dst (.pointer (some ⟨w.heap.size, 0, none⟩))) w') : wpList P ops Q (o :: rest) a w := by
  refine wpList_plain hg fun K' hK' => ?_
  obtain ⟨w', h1, h2, h3, h4⟩ := RangeL.start hK h ht
  unfold Oper.wp
  simp [execOp, hop, hm, h1, Result.andThen]
  exact hK' _ _ (hc w' h2 h3 h4)
theorem wpList_nextL {r : Nat} {left : List (κ × Value)} (hg : o.guard = none) (it : Operand) (hop : o.op = Op.next it false) (hK : KeyL P k mk kl wf) (h : RangeL P k kl wf w b r es left) (hit : a.eval it = .pointer (some ⟨r, 0, none⟩))
    (h0 : left = [] → wpList P ops Q rest (a.put o.dst (.tuple #[.bool false])) w)
    (h1 : ∀ x v w', (x, v) ∈ left → wf x → RangeL P k kl wf w' b r es (delE left x) → w'.rangeLeft b r < w.rangeLeft b r → Chg (fun j => j = r) w w' → w'.heap.size = w.heap.size → (Instr.entry (.pointer (some ⟨r, 0, none⟩))).run P w' = .ok (.tuple #[mk x, v]) w' →
      wpList P ops Q rest (a.put o.dst (.tuple #[.bool true, mk x, v])) w') : wpList P ops Q (o :: rest) a w := by
  refine wpList_plain hg fun K' hK' => ?_
  unfold Oper.wp
  rcases h.next hK o.type with ⟨hl, hrun⟩ | ⟨x, v, w', hm, hx, hrun, hr, hlt, hch, hsz, hen⟩
  · simp [execOp, hop, hit, hrun, Result.andThen]
    exact hK' _ _ (h0 hl)
  · simp [execOp, hop, hit, hrun, Result.andThen]
    exact hK' _ _ (h1 x v w' hm hx hr hlt hch hsz hen)
end
end
end Go
