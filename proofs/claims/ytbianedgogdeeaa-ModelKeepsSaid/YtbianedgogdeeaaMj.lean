/- Model: one operator of Run (the closure 'at'). -/
import Derived.Test.YtbianedgogdeeaaMi
namespace Go.Proofs.Ytbianedgogdeeaa
open Go.RowKit Go.Maps Fold Go.Lib
attribute [local go_sem] Oper.semAt_some
set_option linter.unusedVariables false
set_option linter.unusedSimpArgs false

/-- Where Run's captured variables lie. -/
structure RD where
  gb : Nat
  fb : Nat
  rb : Nat
  sb : Nat
  nb : Nat
  fr : Nat
  nr : Nat
  ga : Option Addr
  gcap : Nat
  ra : Option Addr
  rcap : Nat
  sa : Option Addr
  scap : Nat
def RD.args (d : RD) (i : Nat) : Array Value := #[.int .i64 i, .pointer (some ⟨d.gb, 0, none⟩), .pointer (some ⟨d.fb, 0, none⟩), .pointer (some ⟨d.rb, 0, none⟩), .pointer (some ⟨d.sb, 0, none⟩), .pointer (some ⟨d.nb, 0, none⟩)]
structure RunW (w : World) (B : Nat) (d : RD) (n : Nat) (ops : List TOp) (s : ST) (recs : List TRecord) (vs ns : List Value) : Prop where
  len : n = ops.length
  lens : n = vs.length ∧ n = ns.length
  g : Blk w d.gb #[.slice d.ga n d.gcap] 24
  f : Blk w d.fb #[.slice (some ⟨d.fr, 0, none⟩) n n] 25
  frow : Blk w d.fr vs.toArray 29
  r : Blk w d.rb #[.slice d.ra recs.length d.rcap] 28
  sblk : Blk w d.sb #[.slice d.sa s.length d.scap] 27
  nx : Blk w d.nb #[.slice (some ⟨d.nr, 0, none⟩) n n] 27
  nrow : Blk w d.nr ns.toArray 29
  hops : SlA B 7 (ROp B) w d.ga d.gcap ops
  hrec : SlA B 5 (RRecord B) w d.ra d.rcap recs
  hst : StA w B d.sa d.scap s
  ne : d.fr ≠ d.nr
  bn : B ≤ d.nr
namespace RunW
variable {w w' : World} {B n : Nat} {d : RD} {ops : List TOp} {st : ST} {recs : List TRecord} {vs ns : List Value}
theorem below (h : RunW w B d n ops st recs vs ns) (hb : Below w.heap.size w w') (hB : B ≤ w.heap.size) : RunW w' B d n ops st recs vs ns :=
  ⟨h.len, h.lens, h.g.below hb h.g.lt, h.f.below hb h.f.lt, h.frow.below hb h.frow.lt, h.r.below hb h.r.lt, h.sblk.below hb h.sblk.lt, h.nx.below hb h.nx.lt, h.nrow.below hb h.nrow.lt, imp_ops h.hops (hb.mono hB),
    h.hrec.imp (hb.mono hB) (Nat.le_refl _) (fun _ _ _ h => h.imp (hb.mono hB) (Nat.le_refl _)), h.hst.imp' (hb.mono hB) (Nat.le_refl _), h.ne, h.bn⟩
theorem hB (h : RunW w B d n ops st recs vs ns) : B ≤ w.heap.size := Nat.le_trans h.bn (Nat.le_of_lt h.nrow.lt)
theorem setN (h : RunW w B d n ops st recs vs ns) {i : Nat} (v : Value) : RunW (w.setCell ⟨d.nr, i, none⟩ v) B d n ops st recs vs (ns.set i v) := by
  have hc : Chg (fun k => k = d.nr) w (w.setCell ⟨d.nr, i, none⟩ v) := (Chg.refl _ _).setCell _ _ (fun _ => rfl)
  have hb : Below B w (w.setCell ⟨d.nr, i, none⟩ v) := hc.below h.hB (fun k hk e => by have := h.bn; omega)
  have hne : ∀ {b : Nat} {cs : Array Value} {T : TypeId}, Blk w b cs T → T ≠ 29 → ¬ b = d.nr := fun {b cs T} hbk hT e => by
    subst e
    have h1 := h.nrow
    unfold Blk at hbk h1
    rw [hbk] at h1
    simp only [Option.some.injEq, Obj.cells.injEq] at h1
    exact hT h1.2.1
  refine ⟨h.len, ⟨h.lens.1, by rw [List.length_set]; exact h.lens.2⟩, h.g.chg hc (hne h.g (by decide)), h.f.chg hc (hne h.f (by decide)), h.frow.chg hc h.ne, h.r.chg hc (hne h.r (by decide)), h.sblk.chg hc (hne h.sblk (by decide)), h.nx.chg hc (hne h.nx (by decide)), ?_, imp_ops h.hops hb,
    h.hrec.imp hb (Nat.le_refl _) (fun _ _ _ h => h.imp hb (Nat.le_refl _)), h.hst.imp' hb (Nat.le_refl _), h.ne, h.bn⟩
  have := h.nrow.set i v
  rwa [List.setIfInBounds_toArray] at this
end RunW
/-- An input of an operator: it reads as a list. -/
def InR (w : World) (v : Value) (l : PRS) : Prop := ∃ ao cap, v = .slice ao l.length cap ∧ PrA w.heap.size w ao cap l ∧ (∀ p ∈ l, okR p) ∧ l.length ≤ 100000
theorem InR.below {w w' : World} {v : Value} {l : PRS} (h : InR w v l) (hb : Below w.heap.size w w') : InR w' v l := by
  obtain ⟨ao, cap, rfl, h1, h2⟩ := h
  exact ⟨ao, cap, rfl, h1.imp' hb hb.size, h2⟩
/-- What 'at' answers. -/
def AtPost (w : World) (B : Nat) (d : RD) (n : Nat) (ops : List TOp) (s : ST) (recs : List TRecord) (vs ns : List Value) (i : Nat) (out keep : PRS) (e : Ending) (w' : World) : Prop :=
  ∃ v l kv, e = .returned v ∧ OwnR w' w.heap.size v l ∧ l.Perm out ∧ RunW w' B d n ops s recs vs (ns.set i kv) ∧ OwnR w' w.heap.size kv keep ∧ Chg (fun k => k = d.nr) w w'

theorem op_wf {B : Nat} {w : World} {cs : List Value} {o : TOp} (h : ROp B w cs o) : ∃ nn ll : Nat, o.fNum = nn ∧ o.fLim = ll ∧ nn < 4294967296 ∧ ll < 4294967296 := by
  obtain ⟨_, _, _, _, _, _, h3, _, _, h6⟩ := h
  have h1 := bounds_u32 h3
  have h2 := bounds_u32 h6
  exact ⟨o.fNum.toNat, o.fLim.toNat, by omega, by omega, by omega, by omega⟩
theorem rec_ok {B : Nat} {w : World} {cs : List Value} {r : TRecord} (h : RRecord B w cs r) : okR (r.fKey, r.fVal.toNat) ∧ r.fVal = (r.fVal.toNat : Nat) := by
  obtain ⟨_, _, _, _, h3, h4⟩ := h
  have h1 := bounds_u32 h4
  exact ⟨⟨h3, by dsimp only; omega⟩, by omega⟩

theorem set_nil {ns : List Value} {i : Nat} (hnil : ns[i]? = some (.slice none 0 0)) : ns.set i (.slice none 0 0) = ns := by
  apply List.ext_getElem?
  intro j
  rw [List.getElem?_set]
  split
  · rename_i e
    subst e
    rw [hnil]
    split
    · rfl
    · rename_i hlt
      rw [List.getElem?_eq_none (by omega)] at hnil
      cases hnil
  · rfl
/-- 'at' has come to its end, nothing kept. -/
theorem at_done {B n i : Nat} {d : RD} {ops : List TOp} {s : ST} {recs : List TRecord} {vs ns : List Value} {w w1 wr : World} {v : Value} {L out keep : PRS} (h : RunW w B d n ops s recs vs ns) (hset : ns.set i (.slice none 0 0) = ns)
    (hb1 : Below w.heap.size w w1) (hbr : Below w1.heap.size w1 wr) (hown : OwnR wr w1.heap.size v L) (hout : L.Perm out) (hkeep : keep = []) : AtPost w B d n ops s recs vs ns i out keep (.returned v) wr := by
  have hb := hb1.trans (hbr.mono hb1.size)
  refine ⟨v, L, .slice none 0 0, rfl, hown.base_le hb1.size, hout, by rw [hset]; exact h.below hb h.hB, by rw [hkeep]; exact OwnL.nil _ _ _ _ _, (Chg.of_below hb).mono (fun k hk e => by omega)⟩

set_option maxRecDepth 100000 in
set_option maxHeartbeats 4000000 in
theorem at_src {B n i : Nat} {d : RD} {ops : List TOp} {s : ST} {recs : List TRecord} {vs ns : List Value} (w : World) (h : RunW w B d n ops s recs vs ns) (hi : i < n) (o : TOp) (ho : ops[i]? = some o) (hk : o.fKind = 1) (hrl : recs.length ≤ 512)
    (hnil : ns[i]? = some (.slice none 0 0)) (a b kept : PRS) :
    Calls Try.prog 28 (d.args i) w (AtPost w B d n ops s recs vs ns i (opOut o a b kept recs) (opKeep o a kept)) := by
  have hout : opOut o a b kept recs = recs.filterMap (srcP o) := by unfold opOut; rw [if_pos hk]
  have hkeep : opKeep o a kept = [] := by unfold opKeep; rw [if_neg (by omega)]
  have hset := set_nil hnil
  obtain ⟨iR, hiR, hR0, hR1, hR2⟩ := partsR
  have hio : i < ops.length := by rw [← h.len]; exact hi
  have hoe : ops[i] = o := by rw [List.getElem?_eq_getElem hio] at ho; simpa using ho
  obtain ⟨gb, goff, hga, hgb, hgc⟩ := h.hops.addr (by omega)
  have hget := h.hops
  rw [hga] at hget
  obtain ⟨ia, ic, k0, k1, k2, k3, k4, k5, k6, _, hins, _⟩ := ROp.at hget hio hoe
  have g0 := h.g.cellAt (i := 0) (v := .slice d.ga n d.gcap) rfl
  rw [hga] at g0
  have hBw := h.hB
  have hgbw : gb < w.heap.size := by omega
  obtain ⟨kind, ins, arg, num, rounds, test, lim⟩ := o
  dsimp only at hk k0 k1 k2 k3 k4 k5 k6 hins
  subst hk
  unfold RD.args
  replace hout := Lib.hid hout
  replace hkeep := Lib.hid hkeep
  replace hset := Lib.hid hset
  replace hga := Lib.hid hga
  replace ho := Lib.hid ho
  replace hoe := Lib.hid hoe
  replace hnil := Lib.hid hnil
  replace h := Lib.hid h
  clear hget hgc
  obtain ⟨il, hil⟩ : ∃ il, il = ins.length := ⟨_, rfl⟩
  rw [← hil] at k1
  replace hil := Lib.hid hil
  go_enter Try.func28, Try.ntmps28
  go_upto_region 2 with fail
  refine Code.wp_world ?_
  intro w1 hw1
  have hb1 : Below w.heap.size w w1 := by rw [hw1]; exact belowAlloc _ _
  have hQ1 : Blk w1 w.heap.size #[.int .i64 1, .slice ia il ic, .int .i64 arg, .int .u32 num, .int .i64 rounds, .int .i64 test, .int .u32 lim] 51 := by rw [hw1]; exact Blk.new _ _ _
  obtain ⟨ob, hob⟩ : ∃ ob, ob = w.heap.size := ⟨_, rfl⟩
  have hob1 : ob < w1.heap.size := by rw [hob]; exact hQ1.lt
  rw [← hob] at hQ1 ⊢
  have q0 := hQ1.cellAt (i := 0) (v := .int .i64 1) rfl
  have q1 := hQ1.cellAt (i := 1) (v := .slice ia il ic) rfl
  have q2 := hQ1.cellAt (i := 2) (v := .int .i64 arg) rfl
  have q3 := hQ1.cellAt (i := 3) (v := .int .u32 num) rfl
  have q4 := hQ1.cellAt (i := 4) (v := .int .i64 rounds) rfl
  have q5 := hQ1.cellAt (i := 5) (v := .int .i64 test) rfl
  have q6 := hQ1.cellAt (i := 6) (v := .int .u32 lim) rfl
  replace hob := Lib.hid hob
  clear hw1 k0 k1 k2 k3 k4 k5 k6 g0
  have r0 := h.out.r.cellAt (i := 0) (v := .slice d.ra recs.length d.rcap) rfl
  obtain ⟨m, hm⟩ : ∃ m, m = recs.length := ⟨_, rfl⟩
  rw [← hm] at hrl r0
  have hrb0 := h.out.r.lt
  have r1 := (hb1.cell (p := ⟨d.rb, 0, none⟩) hrb0).trans r0
  replace hm := Lib.hid hm
  clear r0 q1 q3 q4 q5 q6
  go_wp2_with fail
  go_loopw [10, 71] (fun x10 x71 wr => ∃ j : Nat, j ≤ m ∧ x71 = .int .i64 j ∧ OwnR wr w1.heap.size x10 ((recs.take j).filterMap (srcP ⟨1, ins, arg, num, rounds, test, lim⟩)) ∧ Below w1.heap.size w1 wr) (fun _ x71 _ => m - (intOf x71).toNat)
  case atStart => exact ⟨0, Nat.zero_le _, rfl, OwnL.nil _ _ _ _ _, Below.refl _ _⟩
  case round =>
    obtain ⟨j, hj, rfl, hown, hbr⟩ := hrel
    by_cases hjm : j < m
    · have d1 : decide ((j : Int) < (m : Int)) = true := by simp; omega
      have hjr : j < recs.length := by rw [← hm.out]; exact hjm
      obtain ⟨rb, roff, hra, hrb, _⟩ := h.out.hrec.addr (by omega)
      have hrec := h.out.hrec
      rw [hra] at hrec
      obtain ⟨r, hr⟩ : ∃ r, recs[j] = r := ⟨_, rfl⟩
      have hbw2 : Below B w wr := (hb1.trans (hbr.mono hb1.size)).mono hBw
      obtain ⟨c0, c1, c2, c3, c4, _⟩ := RRecord.at (hrec.imp hbw2 (Nat.le_refl _) (fun _ _ _ h => h.imp hbw2 (Nat.le_refl _))) hjr hr
      obtain ⟨cs, hrw⟩ := SlA.all h.out.hrec r (by rw [← hr]; exact List.getElem_mem hjr)
      obtain ⟨hok, hval⟩ := rec_ok hrw
      have hti : recs.take (j + 1) = recs.take j ++ [r] := by rw [List.take_add_one, List.getElem?_eq_getElem hjr, hr]; rfl
      have hlen : ((recs.take j).filterMap (srcP ⟨1, ins, arg, num, rounds, test, lim⟩)).length ≤ 512 := by
        have h1 := List.length_filterMap_le (srcP ⟨1, ins, arg, num, rounds, test, lim⟩) (recs.take j)
        rw [List.length_take] at h1
        omega
      have hfm : (recs.take (j + 1)).filterMap (srcP ⟨1, ins, arg, num, rounds, test, lim⟩) = (recs.take j).filterMap (srcP ⟨1, ins, arg, num, rounds, test, lim⟩) ++ (if arg = -1 ∨ r.fPart = arg then [(r.fKey, r.fVal.toNat)] else []) := by
        rw [hti, List.filterMap_append]
        congr 1
        by_cases hc : arg = -1 ∨ r.fPart = arg <;> simp [srcP, hc]
      obtain ⟨rp, rs, rpart, rkey, rval⟩ := r
      dsimp only at c0 c1 c2 c3 c4 hok hval hfm
      obtain ⟨rv, hrv⟩ : ∃ rv, rv = rval.toNat := ⟨_, rfl⟩
      rw [← hrv] at hval hok hfm
      subst hval
      obtain ⟨L, hL⟩ : ∃ L, L = (recs.take j).filterMap (srcP ⟨1, ins, arg, num, rounds, test, lim⟩) := ⟨_, rfl⟩
      rw [← hL] at hlen hfm hown
      have q2r := (hbr.cell (p := ⟨ob, 2, none⟩) hob1).trans q2
      replace hL := Lib.hid hL
      replace hr := Lib.hid hr
      replace hra := Lib.hid hra
      replace hrv := Lib.hid hrv
      have hrbw : rb < wr.heap.size := by have := hb1.size; have := hbr.size; omega
      have hobw := Nat.lt_of_lt_of_le hob1 hbr.size
      clear hti hrec hbw2 hrw q2 q0 r1
      rw [hra.out]
      go_upto_region 20 with fail
      refine Code.wp_world ?_
      intro w5 hw5
      have hb5 : Below wr.heap.size wr w5 := by rw [hw5]; exact belowAlloc _ _
      have hB5 : Blk w5 wr.heap.size #[.int .i64 rp, .int .i64 rs, .int .i64 rpart, .string rkey, .int .u32 (rv : Nat)] 47 := by rw [hw5]; exact Blk.new _ _ _
      have q25 := (hb5.cell (p := ⟨ob, 2, none⟩) hobw).trans q2r
      have hown5 := hown.below hb5 (Nat.le_refl _)
      have hbr5 := hbr.trans (hb5.mono hbr.size)
      obtain ⟨z, hz⟩ : ∃ z, z = wr.heap.size := ⟨_, rfl⟩
      rw [← hz] at hB5 ⊢
      have p2 := hB5.cellAt (i := 2) (v := .int .i64 rpart) rfl
      have p3 := hB5.cellAt (i := 3) (v := .string rkey) rfl
      have p4 := hB5.cellAt (i := 4) (v := .int .u32 (rv : Nat)) rfl
      clear hw5 hz hb5 hB5 q2r hown hbr c0 c1 c2 c3 c4
      by_cases ha : arg = -1
      · have d2 : (arg == -1) = true := by simpa using ha
        rw [if_pos (.inl ha)] at hfm
        replace hfm := Lib.hid hfm
        replace ha := Lib.hid ha
        go_wp2_with (at_builtin; refine Shut.out ?kz)
        unfold Shut
        refine wpList_app1g rfl _ _ 29 rfl Try.underlying29 hiR hR0 hR1 hR2 rfl (by decide) (enc := encR) (rkey, rv) rfl hown5 rfl (encR_len _) (encR_one _) (by omega) (by unfold maxLen; omega) hbr5.size ?_
        intro g cap7 w7 hown7 hgr7
        rw [← hfm.out] at hown7
        have hb7 := hbr5.trans (hgr7.below hbr5.size (fun g e => (hown5.lt g e).1))
        clear hown5 hbr5 hgr7 q25 hfm p2 p3 p4
        go_wp2_with fail
        go_roundw
        case rel => exact ⟨j + 1, by omega, by go_num, hown7, hb7⟩
        case measure => simp [intOf]; omega
      · have d2 : (arg == -1) = false := by simpa using ha
        by_cases hp : rpart = arg
        · have d3 : (rpart == arg) = true := by simpa using hp
          rw [if_pos (.inr hp)] at hfm
          replace hfm := Lib.hid hfm
          replace ha := Lib.hid ha
          replace hp := Lib.hid hp
          go_wp2_with (at_builtin; refine Shut.out ?ky)
          unfold Shut
          refine wpList_app1g rfl _ _ 29 rfl Try.underlying29 hiR hR0 hR1 hR2 rfl (by decide) (enc := encR) (rkey, rv) rfl hown5 rfl (encR_len _) (encR_one _) (by omega) (by unfold maxLen; omega) hbr5.size ?_
          intro g cap7 w7 hown7 hgr7
          rw [← hfm.out] at hown7
          have hb7 := hbr5.trans (hgr7.below hbr5.size (fun g e => (hown5.lt g e).1))
          clear hown5 hbr5 hgr7 q25 hfm p2 p3 p4
          go_wp2_with fail
          go_roundw
          case rel => exact ⟨j + 1, by omega, by go_num, hown7, hb7⟩
          case measure => simp [intOf]; omega
        · have d3 : (rpart == arg) = false := by simpa using hp
          rw [if_neg (by intro h; rcases h with h | h; exact ha h; exact hp h), List.append_nil] at hfm
          rw [← hfm] at hown5
          clear hfm ha hp
          go_wp2_with fail
          go_roundw
          case rel => exact ⟨j + 1, by omega, by go_num, hown5, hbr5⟩
          case measure => simp [intOf]; omega
    · have d1 : decide ((j : Int) < (m : Int)) = false := by simp; omega
      have hti : recs.take j = recs := List.take_of_length_le (by have := hm.out; omega)
      rw [hti] at hown
      clear hti r1
      go_wp2_with fail
      go_ret
      exact at_done h.out hset.out hb1 hbr hown (by rw [hout.out]) hkeep.out
end Go.Proofs.Ytbianedgogdeeaa
