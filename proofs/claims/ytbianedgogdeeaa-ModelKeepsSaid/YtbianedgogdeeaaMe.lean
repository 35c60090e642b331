/- Model: a fold by keys (folded). -/
import Derived.Test.YtbianedgogdeeaaMd
import Derived.Test.YtbianedgogdeeaaL12
namespace Go.Proofs.Ytbianedgogdeeaa
open Go.RowKit Go.Maps Fold
attribute [local go_sem] Oper.semAt_some
set_option linter.unusedVariables false
set_option linter.unusedSimpArgs false

def valU (n : Nat) : Value := .int .u32 (n : Nat)
/-- What a map of numbers holds. -/
def Mp (es : List (ByteArray × Value)) (f : ByteArray → Option Nat) : Prop := ∀ k, getE es k = (f k).map valU
theorem Mp.set {es : List (ByteArray × Value)} {f g : ByteArray → Option Nat} (h : Mp es f) (x : ByteArray) (n : Nat) (hg : ∀ k, g k = if x = k then some n else f k) : Mp (setE es x (valU n)) g := fun k => by
  rw [getE_setE, hg, h k]
  by_cases e : x = k <;> simp [e]
theorem setE_len (es : List (ByteArray × Value)) (x : ByteArray) (v : Value) : (setE es x v).length ≤ es.length + 1 := by
  unfold setE delE
  rw [List.length_cons]
  exact Nat.succ_le_succ (List.length_filter_le _ _)
theorem getL_snoc {l : PRS} {p : PR} (h : ∀ q ∈ l, q.1 ≠ p.1) (k : ByteArray) : getL (l ++ [p]) k = if p.1 = k then some p.2 else getL l k := by
  unfold getL
  rw [List.find?_append]
  by_cases e : p.1 = k
  · have : l.find? (fun q => decide (q.1 = k)) = none := by
      rw [List.find?_eq_none]
      intro q hq
      simp only [decide_eq_true_eq]
      exact fun e2 => h q hq (e2.trans e.symm)
    simp [this, e]
  · cases hf : l.find? (fun q => decide (q.1 = k)) <;> simp [e]
theorem srt_take {l : PRS} (h : Srt l) {i : Nat} (hi : i < l.length) : ∀ q ∈ l.take i, q.1 ≠ l[i].1 := by
  intro q hq
  unfold Srt at h
  have h1 : (l.take i ++ [l[i]]).Pairwise (fun p q => Op.bytesLess p.1.toList q.1.toList = true) := by
    have : l.take i ++ [l[i]] = l.take (i + 1) := by rw [List.take_add_one, List.getElem?_eq_getElem hi]; rfl
    rw [this]
    exact List.Pairwise.sublist (List.take_sublist _ _) h
  have h2 := (List.pairwise_append.1 h1).2.2 q hq l[i] (by simp)
  exact less_ne h2
theorem keys_of_mp {es : List (ByteArray × Value)} {L : PRS} (hn : (es.map Prod.fst).Nodup) (hs : Srt L) (h : Mp es (getL L)) : (es.map Prod.fst).Perm (L.map Prod.fst) := by
  refine (List.perm_ext_iff_of_nodup hn hs.nodup).2 (fun k => ⟨fun hk => ?_, fun hk => ?_⟩)
  · obtain ⟨p, hp, rfl⟩ := List.mem_map.1 hk
    have h1 := h p.1
    rw [getE_of_mem hn hp] at h1
    cases hg : getL L p.1 with
    | none => rw [hg] at h1; cases h1
    | some v => exact List.mem_map.2 ⟨_, getL_mem hg, rfl⟩
  · obtain ⟨p, hp, rfl⟩ := List.mem_map.1 hk
    have h1 := h p.1
    rw [getL_of_mem hs.nodup hp] at h1
    exact List.mem_map.2 ⟨_, getE_mem h1, rfl⟩

theorem mk_mapU (u : World) : (Instr.makeMap 86 none).run Try.prog u = .ok (.map (some u.heap.size)) (u.alloc (.map #[] 0)) := rfl
theorem zeroU (w : World) : (zeroValue 45).run Try.prog w = .ok (.int .u32 0) w := Try.zeroValue45 w

theorem foldV_cases {wh : Int} (hw : ¬ (wh < 0 ∨ 6 < wh)) {l kept : PRS} {k : ByteArray} (hk : k ∈ keysK l) : foldV wh l kept k = match getL kept k with | none => allN wh (valsK l k) | some old => joinN wh old (allN wh (valsK l k)) := by
  have hne : valsK l k ≠ [] := fun h => valsK_nil.1 h hk
  have hs := allO_isSome wh (valsK l k)
  unfold foldV allN
  rw [if_neg hw]
  cases ha : allO wh (valsK l k) with
  | none =>
    rw [ha] at hs
    cases hv : valsK l k with
    | nil => exact absurd hv hne
    | cons a r => rw [hv] at hs; cases hs
  | some a => cases getL kept k <;> rfl
theorem allN_lt' (wh : Int) (l : List Nat) (h : ∀ x ∈ l, x < 4294967296) : allN wh l < 4294967296 := by
  unfold allN
  split
  · decide
  have : ∀ l : List Nat, (∀ x ∈ l, x < 4294967296) → ∀ a, allO wh l = some a → a < 4294967296 := by
    intro l
    induction l with
    | nil => intro _ a h; cases h
    | cons v r ih =>
      intro h a ha
      have h1 := startN_lt wh v (h v (by simp))
      unfold allO at ha
      cases hr : allO wh r with
      | none => rw [hr] at ha; simp only [optJ, Option.some.injEq] at ha; omega
      | some b =>
        rw [hr] at ha
        simp only [optJ, Option.some.injEq] at ha
        rw [← ha]
        exact joinN_lt wh _ _ h1 (ih (fun x hx => h x (by simp [hx])) b hr)
  cases ha : allO wh l with
  | none => decide
  | some a => exact this l h a ha
theorem valsK_lt {l : PRS} (hok : ∀ p ∈ l, okR p) (k : ByteArray) : ∀ x ∈ valsK l k, x < 4294967296 := fun x hx => (hok _ (mem_valsK.1 hx)).2

/-- The state of folded's loop over the keys. -/
structure FoS (w wr : World) (mb mb2 rb : Nat) (es es2 rest : List (ByteArray × Value)) (v : Value) (out l : PRS) : Prop where
  bel : Below w.heap.size w wr
  all : MpT wr mb es
  rng : RangeL Try.prog 9 klT wfT wr mb2 rb es2 rest
  rows : ByK wr w.heap.size es2 l
  own : OwnR wr w.heap.size v out
  ne : mb ≠ mb2
  b1 : w.heap.size ≤ mb
  b2 : w.heap.size ≤ mb2
  b3 : w.heap.size ≤ rb
namespace FoS
variable {w wr wr' : World} {mb mb2 rb : Nat} {es es2 rest : List (ByteArray × Value)} {v : Value} {out l : PRS}
theorem ner (h : FoS w wr mb mb2 rb es es2 rest v out l) : mb ≠ rb := fun e => by
  obtain ⟨_, _, _, hr, _⟩ := h.rng.own
  obtain ⟨_, _, _, _, _, _, _, _, _, h5, _⟩ := hr
  obtain ⟨ms, c, h3⟩ := h.all.obj
  rw [← e, h3] at h5
  cases h5
theorem noblk {b : Nat} (h : FoS w wr mb mb2 rb es es2 rest v out l) : ∀ g cs T, Blk wr g cs T → g ≠ mb ∧ g ≠ mb2 ∧ g ≠ rb := fun g cs T hb => by
  refine ⟨fun e => ?_, fun e => ?_, fun e => ?_⟩
  · subst e; exact h.all.ne_blk hb rfl
  · subst e; exact h.rng.owns.ne_blk hb rfl
  · subst e
    obtain ⟨o, h1, h2⟩ := h.rng.walk
    have h3 : wr.heap[g]? = some (.cells cs T (0, 0)) := hb
    rw [h3] at h1
    cases h1
    cases h2
theorem vnot (h : FoS w wr mb mb2 rb es es2 rest v out l) : v.ownBlock ≠ some mb ∧ v.ownBlock ≠ some mb2 ∧ v.ownBlock ≠ some rb := by
  rcases h.own.form with ⟨e1, _⟩ | ⟨g', c', cells, e1, hb, _⟩
  · rw [e1]; exact ⟨(fun e => by cases e), (fun e => by cases e), (fun e => by cases e)⟩
  · obtain ⟨h1, h2, h3⟩ := h.noblk (b := 0) g' _ _ hb
    rw [e1]
    simp only [Value.ownBlock, ne_eq, Option.some.injEq]
    exact ⟨h1, h2, h3⟩
theorem below (h : FoS w wr mb mb2 rb es es2 rest v out l) (hb : Below wr.heap.size wr wr') : FoS w wr' mb mb2 rb es es2 rest v out l ∧ wr'.rangeLeft mb2 rb = wr.rangeLeft mb2 rb := by
  obtain ⟨l1, l2⟩ := h.rng.lt
  obtain ⟨r1, r2⟩ := h.rng.chg (Chg.of_below hb) (by omega) (by omega)
  exact ⟨⟨h.bel.trans (hb.mono h.bel.size), h.all.below hb h.all.lt, r1, h.rows.below hb, h.own.below hb (Nat.le_refl _), h.ne, h.b1, h.b2, h.b3⟩, r2⟩
/-- A step of the range. -/
theorem next (h : FoS w wr mb mb2 rb es es2 rest v out l) {rest' : List (ByteArray × Value)} (hr : RangeL Try.prog 9 klT wfT wr' mb2 rb es2 rest') (hc : Chg (fun j => j = rb) wr wr') : FoS w wr' mb mb2 rb es es2 rest' v out l := by
  have hn := h.noblk (b := 0)
  refine ⟨h.bel.trans (hc.below h.bel.size (fun k hk e => by have := h.b3; omega)), h.all.chg hc h.ner, hr, h.rows.chg hc (fun g cs hb e => (hn g cs _ hb).2.2 e), h.own.chg hc (fun g e e2 => h.vnot.2.2 (by rw [e, e2])), h.ne, h.b1, h.b2, h.b3⟩
/-- A store to the map of all. -/
theorem store (h : FoS w wr mb mb2 rb es es2 rest v out l) {es' : List (ByteArray × Value)} (hm : MpT wr' mb es') (hc : Chg (fun j => j = mb) wr wr') : FoS w wr' mb mb2 rb es' es2 rest v out l ∧ wr'.rangeLeft mb2 rb = wr.rangeLeft mb2 rb := by
  have hn := h.noblk (b := 0)
  obtain ⟨r1, r2⟩ := h.rng.chg hc (fun e => h.ne e.symm) (fun e => h.ner e.symm)
  exact ⟨⟨h.bel.trans (hc.below h.bel.size (fun k hk e => by have := h.b1; omega)), hm, r1, h.rows.chg hc (fun g cs hb e => (hn g cs _ hb).1 e), h.own.chg hc (fun g e e2 => h.vnot.1 (by rw [e, e2])), h.ne, h.b1, h.b2, h.b3⟩, r2⟩
/-- What came out grows. -/
theorem grow (h : FoS w wr mb mb2 rb es es2 rest v out l) {v' : Value} {out' : PRS} (ho : OwnR wr' w.heap.size v' out') (hg : Grew wr v wr' v') : FoS w wr' mb mb2 rb es es2 rest v' out' l ∧ wr'.rangeLeft mb2 rb = wr.rangeLeft mb2 rb := by
  obtain ⟨n1, n2, n3⟩ := h.vnot
  have hc := Chg.of_grown hg.grown
  obtain ⟨r1, r2⟩ := h.rng.chg hc n2 n3
  refine ⟨⟨h.bel.trans (hg.below h.bel.size (fun g e => (h.own.lt g e).1)), h.all.chg hc n1, r1, h.rows.chg hc (fun g cs hb e => h.own.ne_blk hb (by decide) e), ho, h.ne, h.b1, h.b2, h.b3⟩, r2⟩
end FoS

theorem ByK.base_le {w : World} {base base' : Nat} {es : List (ByteArray × Value)} {l : PRS} (h : ByK w base es l) (hb : base' ≤ base) : ByK w base' es l := ⟨fun p hp => (h.rows p hp).base_le hb, h.keys, h.apart⟩
/-- What folded's loop over the keys has come to. -/
structure FoldSt (wh : Int) (l kept : PRS) (es es2 rest : List (ByteArray × Value)) (out : PRS) : Prop where
  perm : (es2.map Prod.fst).Perm (out.map Prod.fst ++ rest.map Prod.fst)
  vals : ∀ p ∈ out, p.2 = foldV wh l kept p.1
  mp : Mp es (fun k => if k ∈ out.map Prod.fst then some (foldV wh l kept k) else getL kept k)
  len : es.length ≤ kept.length + out.length
theorem FoldSt.start {wh : Int} {l kept : PRS} {es es2 : List (ByteArray × Value)} (hm : Mp es (getL kept)) (hl : es.length ≤ kept.length) : FoldSt wh l kept es es2 es2 [] := ⟨.refl _, fun p hp => absurd hp List.not_mem_nil, fun k => by simpa using hm k, by simpa using hl⟩
theorem FoldSt.step {wh : Int} {l kept : PRS} {es es2 rest : List (ByteArray × Value)} {out : PRS} {k : ByteArray} {sv : Value} (h : FoldSt wh l kept es es2 rest out) (hn : (rest.map Prod.fst).Nodup) (hm : (k, sv) ∈ rest) :
    FoldSt wh l kept (setE es k (valU (foldV wh l kept k))) es2 (delE rest k) (out ++ [(k, foldV wh l kept k)]) := by
  refine ⟨?_, fun p hp => ?_, h.mp.set k _ (fun k2 => ?_), ?_⟩
  · have h1 := (RangeL.del_perm hn hm).map Prod.fst
    rw [List.map_cons] at h1
    refine h.perm.trans ?_
    rw [List.map_append, List.map_cons, List.map_nil, List.append_assoc]
    exact h1.append_left _
  · rcases List.mem_append.1 hp with hp | hp
    · exact h.vals p hp
    · simp only [List.mem_singleton] at hp
      subst hp
      rfl
  · by_cases e : k = k2
    · subst e; simp
    · have hne : ¬ k2 = k := fun e2 => e e2.symm
      have h1 : k2 ∈ (out ++ [(k, foldV wh l kept k)]).map Prod.fst ↔ k2 ∈ out.map Prod.fst := by
        rw [List.map_append, List.mem_append]
        simp [hne]
      rw [if_neg e]
      by_cases h2 : k2 ∈ out.map Prod.fst
      · rw [if_pos (h1.2 h2), if_pos h2]
      · rw [if_neg (fun h => h2 (h1.1 h)), if_neg h2]
  · have := setE_len es k (valU (foldV wh l kept k))
    have := h.len
    simp
    omega
theorem FoldSt.at {wh : Int} {l kept : PRS} {es es2 rest : List (ByteArray × Value)} {out : PRS} {k : ByteArray} {sv : Value} (h : FoldSt wh l kept es es2 rest out) (hn2 : (es2.map Prod.fst).Nodup) (hm : (k, sv) ∈ rest) : getE es k = (getL kept k).map valU := by
  rw [h.mp k]
  have : k ∉ out.map Prod.fst := fun hk => by
    have h1 := h.perm.nodup_iff.1 hn2
    have h2 := (List.nodup_append.1 h1).2.2 k hk k (List.mem_map.2 ⟨_, hm, rfl⟩)
    exact h2 rfl
  show Option.map valU (if _ then _ else _) = _
  rw [if_neg this]
theorem FoldSt.outlen {wh : Int} {l kept : PRS} {es es2 rest : List (ByteArray × Value)} {out : PRS} (h : FoldSt wh l kept es es2 rest out) : out.length + rest.length = es2.length := by
  have := h.perm.length_eq
  simpa using this.symm
theorem FoldSt.done {wh : Int} {l kept : PRS} {es es2 : List (ByteArray × Value)} {out : PRS} (h : FoldSt wh l kept es es2 [] out) (hk : ∀ k, k ∈ es2.map Prod.fst ↔ k ∈ keysK l) (hn2 : (es2.map Prod.fst).Nodup) : out.Perm (foldOut wh l kept) ∧ Mp es (getL (foldKeep wh l kept)) := by
  have hp : (out.map Prod.fst).Perm (keysK l) := by
    have h1 : (es2.map Prod.fst).Perm (keysK l) := (List.perm_ext_iff_of_nodup hn2 (nodup_keysK l)).2 hk
    have h2 := h.perm
    rw [List.map_nil, List.append_nil] at h2
    exact h2.symm.trans h1
  constructor
  · have h1 : out = (out.map Prod.fst).map (fun k => (k, foldV wh l kept k)) := by
      rw [List.map_map]
      conv => lhs; rw [← List.map_id out]
      exact List.map_congr_left (fun p hp => Prod.ext rfl (h.vals p hp))
    rw [h1]
    exact hp.map _
  · intro k
    rw [h.mp k, getL_foldKeep]
    simp only [hp.mem_iff]
attribute [local go_sem] mk_mapU
set_option maxRecDepth 100000 in
set_option maxHeartbeats 4000000 in
theorem folded_any (wh : Int) (l kept : PRS) (ao ko : Option Addr) (cap kcap B : Nat) (w : World) (hB : B ≤ w.heap.size) (hw0 : 0 ≤ wh) (hw6 : wh ≤ 6) (h : PrA B w ao cap l) (hk : PrA B w ko kcap kept) (hok : ∀ p ∈ l, okR p) (hokk : ∀ p ∈ kept, okR p) (hs : Srt kept)
    (hz : l.length ≤ 1000000) (hzk : kept.length ≤ 5864062014805) :
    Calls Try.prog 31 #[.int .i64 wh, .slice ao l.length cap, .slice ko kept.length kcap] w fun e w' => ∃ v1 v2 out, e = .returned (.tuple #[v1, v2]) ∧ OwnR w' w.heap.size v1 out ∧ out.Perm (foldOut wh l kept) ∧ OwnR w' w.heap.size v2 (foldKeep wh l kept) ∧ Below w.heap.size w w' := by
  obtain ⟨iR, hiR, hR0, hR1, hR2⟩ := partsR
  have hby := fun W (hb : Below w.heap.size w W) => byKey_any l ao cap B W (Nat.le_trans hB hb.size) (h.imp' (hb.mono hB) (Nat.le_refl _)) hok hz
  obtain ⟨n, hn⟩ : ∃ n, n = l.length := ⟨_, rfl⟩
  obtain ⟨m, hm⟩ : ∃ m, m = kept.length := ⟨_, rfl⟩
  rw [← hn] at hz hby ⊢
  rw [← hm] at hzk ⊢
  replace hn := Lib.hid hn
  replace hm := Lib.hid hm
  replace hby := Lib.hid hby
  clear h
  go_enter Try.func31, Try.ntmps31
  go_upto_region 2 with fail
  refine Code.wp_world ?_
  intro w1 hw1
  have hb1 : Below w.heap.size w w1 := by rw [hw1]; exact belowAlloc _ _
  have hM1 : MpT w1 w.heap.size [] := by rw [hw1]; exact MapL.made w
  obtain ⟨mb, hmb⟩ : ∃ mb, mb = w.heap.size := ⟨_, rfl⟩
  rw [← hmb] at hM1 ⊢
  have hmb2 : w.heap.size ≤ mb := by omega
  replace hmb := Lib.hid hmb
  clear hw1
  go_wp2_with fail
  go_loopw [24] (fun x24 wr => ∃ (i : Nat) (es : List (ByteArray × Value)), i ≤ m ∧ x24 = .int .i64 i ∧ MpT wr mb es ∧ Mp es (getL (kept.take i)) ∧ es.length ≤ i ∧ Below w.heap.size w wr) (fun x24 _ => m - (intOf x24).toNat)
  case atStart => exact ⟨0, [], Nat.zero_le _, rfl, hM1, fun k => rfl, Nat.le_refl _, hb1⟩
  case round =>
    clear hM1 hb1
    obtain ⟨i, es, hi, rfl, hM, hmp, hel, hbr⟩ := hrel
    by_cases hin : i < m
    · have d1 : decide ((i : Int) < (m : Int)) = true := by simp; omega
      have hix : i < kept.length := by rw [← hm.out]; exact hin
      obtain ⟨b, off, rfl, hb, _⟩ := hk.addr (by omega)
      obtain ⟨p, hp⟩ : ∃ p, kept[i] = p := ⟨_, rfl⟩
      obtain ⟨e0, e1⟩ := PrA.at (hk.imp' (hbr.mono hB) (Nat.le_refl _)) hix
      have hpo := hokk p (by rw [← hp]; exact List.getElem_mem hix)
      have hti : kept.take (i + 1) = kept.take i ++ [p] := by rw [List.take_add_one, List.getElem?_eq_getElem hix, hp]; rfl
      have hfr := srt_take hs hix
      rw [hp] at e0 e1 hfr
      have hmp2 : Mp (setE es p.1 (valU p.2)) (getL (kept.take (i + 1))) := hmp.set p.1 p.2 (fun k => by rw [hti]; exact getL_snoc hfr k)
      obtain ⟨k, u⟩ := p
      obtain ⟨hkk, hu⟩ := hpo
      dsimp only at e0 e1 hkk hu hmp2
      have hbw : b < wr.heap.size := by have := hbr.size; omega
      have hel2 : es.length < maxLen := by unfold maxLen; omega
      have hel3 : (setE es k (valU u)).length ≤ i + 1 := Nat.le_trans (setE_len es k (valU u)) (by omega)
      replace hp := Lib.hid hp
      replace hmp2 := Lib.hid hmp2
      clear hti hfr hmp
      go_upto_region 5 with fail
      refine Code.wp_world ?_
      intro w5 hw5
      have hb5 : Below wr.heap.size wr w5 := by rw [hw5]; exact belowAlloc _ _
      have hB5 : Blk w5 wr.heap.size #[.string k, .int .u32 (u : Nat)] 53 := by rw [hw5]; exact Blk.new _ _ _
      have hM5 := hM.below hb5 hM.lt
      have hbw5 := hbr.trans (hb5.mono hbr.size)
      obtain ⟨z, hzz⟩ : ∃ z, z = wr.heap.size := ⟨_, rfl⟩
      rw [← hzz] at hB5 ⊢
      clear hw5 hM hbr e0 e1 hzz hb5
      have c0 := hB5.cellAt (i := 0) (v := .string k) rfl
      have c1 := hB5.cellAt (i := 1) (v := .int .u32 (u : Nat)) rfl
      go_upto_region 6 with (at_mapUpdate; refine wpList_updateL rfl _ _ _ _ rfl keyN hM5 Try.underlying86 hel2 (x := k) hkk rfl rfl ?_; intro w8 hM9 hc8)
      have hb8 := hbw5.trans (hc8.below hbw5.size (fun k hk e => by omega))
      clear hM5 hbw5 hc8 c0 c1 hB5
      go_wp2_with fail
      go_roundw
      case rel => exact ⟨i + 1, setE es k (valU u), by omega, by go_num, hM9, hmp2.out, hel3, hb8⟩
      case measure => simp [intOf]; omega
    · have d1 : decide ((i : Int) < (m : Int)) = false := by simp; omega
      have hti : kept.take i = kept := List.take_of_length_le (by have := hm.out; omega)
      rw [hti] at hmp
      have hel2 : es.length ≤ kept.length := by rw [← hm.out]; omega
      have hby1 := hby.out wr hbr
      replace hby1 := Lib.hid hby1
      replace hmp := Lib.hid hmp
      replace hel2 := Lib.hid hel2
      clear hti hby hk
      go_wp2_with fail
      refine hby1.out.mono ?_
      rintro e w2 ⟨mb2, es2, rfl, hM2, hK2, hb2, hm2⟩
      have hM12 := hM.below hb2 hM.lt
      have hne : mb ≠ mb2 := by have := hM.lt; omega
      have hb12 := hbr.trans (hb2.mono hbr.size)
      have hK12 := hK2.base_le hbr.size
      have hm12 := Nat.le_trans hbr.size hm2
      clear hM hK2 hb2 hby1 hm2
      dsimp only
      go_wp2_with (at_range; refine wpList_rangeL rfl _ _ rfl keyN hM2 Try.underlying87 rfl ?next)
      case next =>
      intro w3 hr3 hb3 hs3
      have hF3 : FoS w w3 mb mb2 w2.heap.size es es2 es2 (.slice none 0 0) [] l := ⟨hb12.trans (hb3.mono hb12.size), hM12.below hb3 hM12.lt, hr3, hK12.below hb3, OwnL.nil _ _ _ _ _, hne, hmb2, hm12, hb12.size⟩
      have hst3 : FoldSt wh l kept es es2 es2 [] := FoldSt.start hmp.out hel2.out
      have hn2 := hr3.nodup
      have hkeys := hK12.keys
      have hel3 := hK12.len hn2
      rw [← hn.out] at hel3
      obtain ⟨rb, hrb⟩ : ∃ rb, rb = w2.heap.size := ⟨_, rfl⟩
      rw [← hrb] at hF3 ⊢
      replace hst3 := Lib.hid hst3
      replace hkeys := Lib.hid hkeys
      clear hrb hr3 hb3 hs3 hM2 hM12 hK12 hb12 hne hm12 hmp hel hel2 hbr
      go_wp2_with fail
      go_loopw [11] (fun x11 wr => ∃ (es rest : List (ByteArray × Value)) (out : PRS), FoS w wr mb mb2 rb es es2 rest x11 out l ∧ Hid (FoldSt wh l kept es es2 rest out)) (fun _ wr => wr.rangeLeft mb2 rb)
      case atStart => exact ⟨es, es2, [], hF3, hst3⟩
      case round =>
        clear hF3 hst3
        obtain ⟨es, rest, out, hF, hst⟩ := hrel
        have hrng := hF.rng
        go_wp2_with (at_next; refine wpList_nextL rfl _ rfl keyN hrng rfl ?fin ?more)
        case fin =>
          rintro rfl
          obtain ⟨hperm, hmpL⟩ := hst.out.done hkeys.out hn2
          have hnd := hF.all.nodup
          have hsL : Srt (foldKeep wh l kept) := foldKeep_srt hs
          obtain ⟨L, hL⟩ : ∃ L, L = foldKeep wh l kept := ⟨_, rfl⟩
          rw [← hL] at hmpL hsL
          have hkp := keys_of_mp hnd hsL hmpL
          have hol := hst.out.outlen
          have hesl := hst.out.len
          rw [List.length_nil, Nat.add_zero] at hol
          have hlenL : L.length = es.length := by have := hkp.length_eq; simpa using this.symm
          have hesb : es.length ≤ 5864064014805 := by have := hm.out; omega
          have hwb := hF.bel
          have hown := hF.own
          obtain ⟨wa, hwa⟩ : ∃ wa, wa = wr.alloc (.cells #[.map (some mb)] 86) := ⟨_, rfl⟩
          have hba : Below wr.heap.size wr wa := by rw [hwa]; exact belowAlloc _ _
          have hca : wa.cell? ⟨wr.heap.size, 0, none⟩ = some (.map (some mb)) := by rw [hwa]; exact (Blk.new _ _ _).cellAt rfl
          have hMa := hF.all.below hba hF.all.lt
          have hs2 := sortedM_any wr.heap.size mb es L wa hca hMa hsL hkp (by omega)
          have hk1 := mkeys_any mb wr
          rw [← hwa] at hk1
          have howna := hown.below hba (Nat.le_refl _)
          have hwba := hwb.trans (hba.mono hwb.size)
          obtain ⟨TL, hTL⟩ : ∃ TL, TL = L.map Prod.fst := ⟨_, rfl⟩
          rw [← hTL] at hs2
          replace hk1 := Lib.hid hk1
          replace hs2 := Lib.hid hs2
          replace hperm := Lib.hid hperm
          replace hmpL := Lib.hid hmpL
          replace hL := Lib.hid hL
          replace hTL := Lib.hid hTL
          replace hlenL := Lib.hid hlenL
          clear hwa hca hba hwb hown hF hrng hst hol hesl
          go_wp2_with (first | (go_at_call 50; refine hk1.out.mono ?_; rintro e w' ⟨rfl, rfl⟩) | (go_at_call 49; refine Shut.out ?ks))
          unfold Shut
          refine hs2.out.mono ?_
          rintro e w6 ⟨vk, rfl, hT6, hb6⟩
          obtain ⟨tao, tcap, rfl, hx6⟩ := hT6.sla (E := fun _ cs x => cs = encT x) encT_len (fun _ _ => rfl)
          have hM6 := hMa.below hb6 hMa.lt
          have hown6 := howna.below hb6 (Nat.le_refl _)
          have hwb6 := hwba.trans (hb6.mono hwba.size)
          obtain ⟨nL, hnL⟩ : ∃ nL, nL = TL.length := ⟨_, rfl⟩
          have hnLb : nL ≤ 5864064014805 := by have := hlenL.out; rw [hnL, hTL.out, List.length_map]; omega
          rw [← hnL]
          replace hnL := Lib.hid hnL
          clear hT6 hb6 hMa howna hwba hs2 hk1
          dsimp only
          go_wp2_with fail
          go_loopw [18, 72] (fun x18 x72 wr => ∃ (i : Nat), i ≤ nL ∧ x72 = .int .i64 i ∧ OwnR wr w6.heap.size x18 (L.take i) ∧ Below w6.heap.size w6 wr) (fun _ x72 _ => nL - (intOf x72).toNat)
          case atStart => exact ⟨0, Nat.zero_le _, rfl, OwnL.nil _ _ _ _ _, Below.refl _ _⟩
          case round =>
            obtain ⟨i, hi, rfl, hkeep, hbr⟩ := hrel
            by_cases hin : i < nL
            · have d1 : decide ((i : Int) < (nL : Int)) = true := by simp; omega
              have hiL : i < L.length := by have := hnL.out; rw [hTL.out, List.length_map] at this; omega
              have hiT : i < TL.length := by rw [← hnL.out]; exact hin
              obtain ⟨b, off, rfl, hb, _⟩ := hx6.addr (by omega)
              obtain ⟨p, hp⟩ : ∃ p, L[i] = p := ⟨_, rfl⟩
              have hTi : TL[i] = p.1 := by
                have h1 : TL[i]? = (L.map Prod.fst)[i]? := by rw [hTL.out]
                rw [List.getElem?_eq_getElem hiT, List.getElem?_map, List.getElem?_eq_getElem hiL] at h1
                simpa [hp] using h1
              obtain ⟨cs, _, hc, rfl⟩ := hx6.get i hiT
              have e0 := (hbr.cell (p := ⟨b, off + i * 1 + 0, none⟩) hb).trans (by simpa [Nat.add_assoc] using hc 0 (by omega))
              rw [hTi] at e0
              simp only [encT, List.getElem?_cons_zero, Nat.mul_one, Nat.add_zero] at e0
              have hpm : p ∈ L := by rw [← hp]; exact List.getElem_mem hiL
              have hget : getE es p.1 = some (valU p.2) := by rw [hmpL.out, getL_of_mem hsL.nodup (v := p.2) hpm]; rfl
              have hti : L.take (i + 1) = L.take i ++ [p] := by rw [List.take_add_one, List.getElem?_eq_getElem hiL, hp]; rfl
              have hMr := hM6.below hbr hM6.lt
              have hwf : wfT p.1 := hM6.wf _ (getE_mem hget)
              have hbw : b < wr.heap.size := Nat.lt_of_lt_of_le hb hbr.size
              have htl : (L.take i).length = i := by rw [List.length_take]; omega
              obtain ⟨k, u⟩ := p
              dsimp only at e0 hget hwf
              unfold valU at hget
              replace hp := Lib.hid hp
              replace hti := Lib.hid hti
              replace hTi := Lib.hid hTi
              replace htl := Lib.hid htl
              clear hc hpm
              go_wp2_with (first | (at_lookup; refine wpList_lookupL rfl _ _ _ _ rfl keyN hMr Try.underlying86 (zeroU _) (x := k) hwf rfl rfl ?_; simp only [Bool.false_eq_true, if_false, hget, Option.getD_some]) | (at_builtin; refine Shut.out ?kb))
              unfold Shut
              refine wpList_app1q rfl _ _ 29 rfl Try.underlying29 hiR hR0 hR1 hR2 rfl (enc := encR) (k, u) rfl hkeep rfl (encR_len _) (encR_one _) (by rw [htl.out]; omega) (by rw [htl.out]; unfold maxLen; omega) hbr.size ?_
              intro g cap7 w7 hown7 hgr7
              have hb7 := hbr.trans (hgr7.below hbr.size (fun g e => (hkeep.lt g e).1))
              rw [← hti.out] at hown7
              rw [htl.out] at hown7 ⊢
              clear hgr7 hkeep hbr hMr hget e0
              go_wp2_with fail
              go_roundw
              case rel => exact ⟨i + 1, by omega, by go_num, hown7, hb7⟩
              case measure => simp [intOf]; omega
            · have d1 : decide ((i : Int) < (nL : Int)) = false := by simp; omega
              have hti : L.take i = L := List.take_of_length_le (by have := hnL.out; rw [hTL.out, List.length_map] at this; omega)
              rw [hti] at hkeep
              clear hti
              have ho7 := hown6.below hbr (Nat.le_refl _)
              have hfin := hwb6.trans (hbr.mono hwb6.size)
              have hkeep2 := hkeep.base_le hwb6.size
              rw [hL.out] at hkeep2
              clear hkeep hown6
              go_wp2_with fail
              go_ret2
              exact ⟨_, _, out, rfl, ho7, hperm.out, hkeep2, hfin⟩
        case more =>
          intro k sv w4 hm4 hk4 hr4 hlt4 hch4 hsz4 hen4
          have hmem2 : (k, sv) ∈ es2 := hrng.sub _ hm4
          have hF4 := hF.next hr4 hch4
          have hrow4 := hF4.rows.rows _ hmem2
          obtain ⟨sao, scap, hsv, hUR⟩ := UR.of_vals hrow4 (valsK_lt hok k)
          dsimp only at hsv
          subst hsv
          have hall := all_any wh (valsK l k) sao scap _ w4 hUR
          have hst2 := hst.out.step hrng.rnodup hm4
          have hget := hst.out.at hn2 hm4
          have hkin : k ∈ keysK l := (hkeys.out k).1 (List.mem_map.2 ⟨_, hmem2, rfl⟩)
          have hfv := foldV_cases (wh := wh) (by omega) (kept := kept) hkin
          have hvlt := allN_lt' wh _ (valsK_lt hok k)
          have hol := hst.out.outlen
          have hrl : 0 < rest.length := List.length_pos_of_mem hm4
          have hes : es.length < maxLen := by have := hst.out.len; have := hm.out; unfold maxLen; omega
          obtain ⟨nv, hnv⟩ : ∃ nv, nv = (valsK l k).length := ⟨_, rfl⟩
          obtain ⟨vn, hvn⟩ : ∃ vn, vn = allN wh (valsK l k) := ⟨_, rfl⟩
          obtain ⟨bn, hbn⟩ : ∃ bn, bn = allB wh (valsK l k) := ⟨_, rfl⟩
          obtain ⟨fv, hfvn⟩ : ∃ fv, fv = foldV wh l kept k := ⟨_, rfl⟩
          rw [← hnv, ← hvn, ← hbn] at hall
          rw [← hvn] at hfv hvlt
          rw [← hfvn] at hfv hst2
          rw [← hnv] at hen4 ⊢
          replace hall := Lib.hid hall
          replace hst2 := Lib.hid hst2
          have hout : out.length < n := by omega
          clear hF hrow4 hUR hmem2 hkin hnv hvn hbn hfvn hr4 hch4 hrng hst hol hrl
          have hM4 := hF4.all
          cases hg : getL kept k with
          | none =>
            rw [hg] at hget hfv
            dsimp only at hfv
            subst hfv
            simp only [Option.map_none] at hget
            clear hg
            go_wp2_with (first | (go_at_call 47; refine hall.out.mono ?_; rintro e w' ⟨rfl, rfl⟩) | (at_lookup; refine wpList_lookupL rfl _ _ _ _ rfl keyN hM4 Try.underlying86 (zeroU _) (x := k) hk4 rfl rfl ?_; simp only [if_true, hget, Option.getD_none, Option.isSome_none]) | (at_mapUpdate; refine wpList_updateL rfl _ _ _ _ rfl keyN hM4 Try.underlying86 hes (x := k) hk4 rfl rfl ?_; intro w5 hM5 hc5) | (at_builtin; refine Shut.out ?ka))
            unfold Shut
            obtain ⟨hF5, hl5⟩ := hF4.store hM5 hc5
            have hgo : okR (k, fv) := ⟨hk4, hvlt⟩
            refine wpList_app1g rfl _ _ 29 rfl Try.underlying29 hiR hR0 hR1 hR2 rfl (by decide) (enc := encR) (k, fv) rfl hF5.own rfl (encR_len _) (encR_one _) (by omega) (by unfold maxLen; omega) hF5.bel.size ?_
            intro g cap7 w7 hown7 hgr7
            obtain ⟨hF7, hl7⟩ := hF5.grow hown7 hgr7
            clear hF4 hM4 hM5 hc5 hF5 hown7 hgr7 hget hall
            go_wp2_with fail
            go_roundw
            case rel => exact ⟨_, _, _, hF7, hst2⟩
            case measure => rw [hl7, hl5]; exact hlt4
          | some old =>
            rw [hg] at hget hfv
            dsimp only at hfv
            simp only [Option.map_some, valU] at hget
            have holt : old < 4294967296 := (hokk _ (getL_mem hg)).2
            have hjn := join_any wh old vn
            rw [← hfv] at hjn
            have hfl : fv < 4294967296 := by rw [hfv]; exact joinN_lt wh _ _ holt hvlt
            replace hjn := Lib.hid hjn
            clear hg hfv
            go_wp2_with (first | (go_at_call 47; refine hall.out.mono ?_; rintro e w' ⟨rfl, rfl⟩) | (go_at_call 48; refine (hjn.out _ holt hvlt).mono ?_; rintro e w' ⟨rfl, rfl⟩) | (at_lookup; refine wpList_lookupL rfl _ _ _ _ rfl keyN hM4 Try.underlying86 (zeroU _) (x := k) hk4 rfl rfl ?_; simp only [if_true, hget, Option.getD_some, Option.isSome_some]) | (at_mapUpdate; refine wpList_updateL rfl _ _ _ _ rfl keyN hM4 Try.underlying86 hes (x := k) hk4 rfl rfl ?_; intro w5 hM5 hc5) | (at_builtin; refine Shut.out ?ka2))
            unfold Shut
            obtain ⟨hF5, hl5⟩ := hF4.store hM5 hc5
            have hgo : okR (k, fv) := ⟨hk4, hfl⟩
            refine wpList_app1g rfl _ _ 29 rfl Try.underlying29 hiR hR0 hR1 hR2 rfl (by decide) (enc := encR) (k, fv) rfl hF5.own rfl (encR_len _) (encR_one _) (by omega) (by unfold maxLen; omega) hF5.bel.size ?_
            intro g cap7 w7 hown7 hgr7
            obtain ⟨hF7, hl7⟩ := hF5.grow hown7 hgr7
            clear hF4 hM4 hM5 hc5 hF5 hown7 hgr7 hget hall
            go_wp2_with fail
            go_roundw
            case rel => exact ⟨_, _, _, hF7, hst2⟩
            case measure => rw [hl7, hl5]; exact hlt4
end Go.Proofs.Ytbianedgogdeeaa
