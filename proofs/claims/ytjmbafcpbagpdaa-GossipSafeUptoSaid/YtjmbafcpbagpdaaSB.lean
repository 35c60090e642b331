/- Stamp: the document's Front. -/
import Derived.Test.YtjmbafcpbagpdaaSA
import Derived.Test.YtjmbafcpbagpdaaBaseK
import Derived.Test.YtjmbafcpbagpdaaLay
import Derived.Deep.LoopGhost
import Derived.WalkMore
import Derived.Laws.StructEq
namespace Go.Proofs.Ytjmbafcpbagpdaa
open Go.RowKit
set_option linter.unusedVariables false

def encT (x : TTime) : List Value := [.int .i64 x.fEpoch, .int .i64 x.fRound]
def wfT (x : TTime) : Prop := (Lit.int .i64 x.fEpoch).wf = true ∧ (Lit.int .i64 x.fRound).wf = true
theorem encT_len (x : TTime) : (encT x).length = 2 := rfl
theorem encT_one (x : TTime) : ∀ u ∈ encT x, u.oneCell' = true := by
  intro u hu
  simp only [encT, List.mem_cons, List.not_mem_nil, or_false] at hu
  rcases hu with rfl | rfl <;> rfl
theorem infoT : (Try.prog.info? 45).map (fun i => (i.zero, i.size, i.bytes)) = some (some (.agg #[.int .i64 0, .int .i64 0]), 2, 16) := by kernel_rfl
/-- A row of times of the call's own. -/
def OwnT (w : World) (base : Nat) (v : Value) (xs : List TTime) : Prop := OwnL encT w base 45 2 v xs ∧ ∀ x ∈ xs, wfT x
theorem OwnT.sla {w : World} {base : Nat} {v : Value} {xs : List TTime} (h : OwnT w base v xs) : ∃ ao cap, v = .slice ao xs.length cap ∧ SlA w.heap.size 2 (RTime w.heap.size) w ao cap xs :=
  h.1.sla encT_len (fun x hx => ⟨rfl, h.2 x hx⟩)
theorem OwnT.nil (w : World) (base : Nat) : OwnT w base (.slice none 0 0) [] := ⟨OwnL.nil _ _ _ _ _, by simp⟩
theorem OwnT.base_le {w : World} {base base' : Nat} {v : Value} {xs : List TTime} (h : OwnT w base v xs) (hb : base' ≤ base) : OwnT w base' v xs := ⟨h.1.base_le hb, h.2⟩
theorem OwnT.below {w w' : World} {base B : Nat} {v : Value} {xs : List TTime} (h : OwnT w base v xs) (hb : Below B w w') (hB : w.heap.size ≤ B) : OwnT w' base v xs := ⟨h.1.below hb hB, h.2⟩
theorem wf_of_sla {B : Nat} {w : World} {ao : Option Addr} {cap : Nat} {xs : List TTime} (h : SlA B 2 (RTime B) w ao cap xs) : ∀ x ∈ xs, wfT x := by
  intro x hx
  obtain ⟨i, hi, rfl⟩ := List.getElem_of_mem hx
  obtain ⟨b, off, rfl, _, _⟩ := h.addr (by omega)
  obtain ⟨_, _, h1, h2⟩ := RTime.at h hi rfl
  exact ⟨h1, h2⟩

theorem left_skip {t o : TTime} {out : List TTime} {j : Nat} {d : Bool} (h : j < out.length) (ho : out[j] = o) (hle : leT t o = true) : leftT t (out.drop j) d = leftT t (out.drop (j + 1)) d := by
  rw [List.drop_eq_getElem_cons h, ho, leftT, if_pos hle]
theorem left_both {t o : TTime} {out : List TTime} {j : Nat} {d : Bool} (h : j < out.length) (ho : out[j] = o) (hle : leT t o = false) (hd : (!d && decide (t.fEpoch < o.fEpoch)) = true) :
    leftT t (out.drop j) d = [t] ++ ([o] ++ leftT t (out.drop (j + 1)) true) := by
  rw [List.drop_eq_getElem_cons h, ho, leftT, if_neg (by rw [hle]; simp), if_pos hd]; rfl
theorem left_one {t o : TTime} {out : List TTime} {j : Nat} {d : Bool} (h : j < out.length) (ho : out[j] = o) (hle : leT t o = false) (hd : (!d && decide (t.fEpoch < o.fEpoch)) = false) :
    leftT t (out.drop j) d = [o] ++ leftT t (out.drop (j + 1)) d := by
  rw [List.drop_eq_getElem_cons h, ho, leftT, if_neg (by rw [hle]; simp), if_neg (by rw [hd]; simp)]; rfl

end Go.Proofs.Ytjmbafcpbagpdaa

/- Stamp: the program's closures, Covers, and the sort. -/
namespace Go.Proofs.Ytjmbafcpbagpdaa
open Go.RowKit Go.Shelf Go.Lib Go.Sort
set_option linter.unusedVariables false

instance : Inhabited TTime := ⟨⟨0, 0⟩⟩

set_option maxHeartbeats 1000000 in
theorem front1_any (x y : TTime) (W : World) : Calls Try.prog 63 #[.agg #[.int .i64 x.fEpoch, .int .i64 x.fRound], .agg #[.int .i64 y.fEpoch, .int .i64 y.fRound]] W fun e w' =>
    e = .returned (.int .i64 (Lib.compareInt x.fEpoch y.fEpoch)) ∧ ∃ q os', w' = grow (W.drewN q) os' := by
  have hcon := fun W' => AnyG.cmp_Compare_int layCmp x.fEpoch y.fEpoch W'
  change ∀ W', Calls Try.prog 55 _ _ _ at hcon
  generalize Lib.compareInt x.fEpoch y.fEpoch = r at hcon ⊢
  go_enter Try.func63, Try.ntmps63
  go_wp2_with (go_at_call 55; refine (hcon _).mono ?_; rintro e w' ⟨rfl, rfl⟩)
  go_ret
  exact ⟨rfl, 0, _, by rw [alloc_eq_grow, alloc_eq_grow, grow_grow]; rfl⟩

def cmpE (x y : TTime) : Int := Lib.compareInt x.fEpoch y.fEpoch
theorem ltE (x y : TTime) : ltOf cmpE x y = decide (x.fEpoch < y.fEpoch) := by
  unfold ltOf cmpE Lib.compareInt
  by_cases h1 : x.fEpoch < y.fEpoch
  · simp [h1]
  · by_cases h2 : y.fEpoch < x.fEpoch <;> simp [h1, h2]
theorem swoE : SWO (ltOf cmpE) where
  irrefl x := by rw [ltE]; simp
  trans x y z h1 h2 := by rw [ltE] at *; simp at *; omega
  ntrans x y z h1 h2 := by rw [ltE] at *; simp at *; omega

theorem sort_any (xs : List TTime) (v : Value) (w : World) (base : Nat) (h : OwnT w base v xs) (hl : xs.length < 4611686018427387904) :
    Calls Try.prog 62 #[v, .func (.func 63) #[] #[]] w fun e w' => e = .returned (.tuple #[]) ∧
      ∃ ys : List TTime, ys.length = xs.length ∧ ys.Perm xs ∧ (ys.Pairwise fun a b => a.fEpoch ≤ b.fEpoch) ∧ OwnT w' base v ys ∧ w.grownBy w' v.ownBlock := by
  rcases h.1.form with ⟨rfl, rfl⟩ | ⟨g, cap, cells, rfl, _, _, _, _, _, hlt, _⟩
  · have hcon := AnyF.slices_SortFunc_none { laySort with } none 0 (.func (.func 63) #[] #[]) w
    change Calls Try.prog 62 _ _ _ at hcon
    refine hcon.mono ?_
    rintro e w' ⟨rfl, rfl⟩
    exact ⟨rfl, [], rfl, List.Perm.refl _, List.Pairwise.nil, OwnT.nil _ _, World.grownBy.refl _ _⟩
  · have eg : ∀ args w, (callFunc 63 args).run Try.prog w = .ok (.enter 63 args) w := enters_of Try.func63 (by kernel_rfl) rfl
    have hcon := AnyQ.slices_SortFunc laySort 2 Try.isAgg45 Try.sizeOf45 encT encT_len encT_one cmpE swoE 63 #[] g 0 cap xs.toArray w eg
      (fun _ _ _ _ x y => front1_any x y _) (h.1.holds encT_len (by decide)) hlt (by simpa using hl)
    change Calls Try.prog 62 _ _ _ at hcon
    simp only [List.size_toArray] at hcon
    refine hcon.mono ?_
    rintro e w' ⟨rfl, d', n, os, hp, hs, rfl⟩
    have hp2 := perm_of_permIn (d := xs.toArray) (by simpa using hp)
    have hd : d'.size = xs.length := by simpa using hp.1
    rw [← hd] at hs
    have hs2 := pairwise_of_sortedIn hs
    obtain ⟨h1, h2⟩ := h.1.sorted (n := n) (os := os) encT_len (by decide) hd
    refine ⟨rfl, d'.toList, by simpa using hd, hp2, hs2.imp (fun {a b} hab => by rw [ltE] at hab; simpa using hab), ⟨h1, fun x hx => h.2 x (hp2.mem_iff.1 hx)⟩, h2⟩

end Go.Proofs.Ytjmbafcpbagpdaa

/- Stamp: the program's Covers and Front. -/
namespace Go.Proofs.Ytjmbafcpbagpdaa
open Go.RowKit
set_option linter.unusedVariables false

theorem neq_time (a b c d : Int) (w : World) : (binOp .neq 45 (.agg #[.int .i64 a, .int .i64 b]) (.agg #[.int .i64 c, .int .i64 d])).run Try.prog w = .ok (.bool (!(a == c && b == d))) w := by
  have u3 := Try.underlying3
  have a3 := Try.isAgg3
  have z3 := Try.sizeOf3
  have hS : Try.prog.underlying 45 = some (.struct (Try.prog.fieldsOf 45)) := by kernel_rfl
  have hp : Try.prog.stoodInHeld 45 = false := by kernel_rfl
  rw [run_neq_struct, show (10000 : Nat) = 9999 + 1 from rfl, run_equalIn_agg w 9999 45 _ _ hS hp]
  simp only [Program.fieldsOf, Try.underlying45]
  go_simp
  by_cases h1 : a = c <;> by_cases h2 : b = d <;> simp [h1, h2]

def hitT (l : List TTime) (i : Nat) (x o : TTime) (k : Nat) : Bool := goodT o && leT o x && (!sameT o x || decide (k < i))
theorem skip_hit {l : List TTime} {i k : Nat} {x o : TTime} (hk : k < l.length) (ho : l[k] = o) (h : hitT l i x o k = true) : skipT l i x = true := by
  unfold skipT
  rw [Bool.or_eq_true]
  right
  refine List.any_eq_true.2 ⟨k, List.mem_range.2 hk, ?_⟩
  simp only [List.getElem?_eq_getElem hk, ho]
  exact h
theorem skip_none {l : List TTime} {i : Nat} {x : TTime} (hx : goodT x = true) (h : ∀ k (hk : k < l.length), hitT l i x l[k] k = false) : skipT l i x = false := by
  unfold skipT
  rw [Bool.or_eq_false_iff]
  refine ⟨by simp [hx], List.any_eq_false.2 fun k hk => ?_⟩
  have hk' := List.mem_range.1 hk
  simp only [List.getElem?_eq_getElem hk']
  have := h k hk'
  unfold hitT at this
  simpa using this
theorem cand_skip {l : List TTime} {i : Nat} {x : TTime} (hi : i < l.length) (hx : l[i] = x) (h : skipT l i x = true) : candT l (i + 1) = candT l i := by
  simp [candT, List.getElem?_eq_getElem hi, hx, h]
theorem cand_add {l : List TTime} {i : Nat} {x : TTime} (hi : i < l.length) (hx : l[i] = x) (h : skipT l i x = false) : candT l (i + 1) = candT l i ++ [x] := by
  simp [candT, List.getElem?_eq_getElem hi, hx, h]

set_option maxRecDepth 100000 in
set_option maxHeartbeats 4000000 in
theorem front_any (l : List TTime) (ao : Option Addr) (c1 : Nat) (w : World) (B : Nat) (hB : B ≤ w.heap.size) (hl : SlA B 2 (RTime B) w ao c1 l) (hreach : l.length * 16 ≤ 140737488351232) :
    Calls Try.prog 48 #[.slice ao l.length c1] w fun e w' => ∃ v f, e = .returned v ∧ OwnT w' w.heap.size v f ∧ IsFront l f ∧ Below w.heap.size w w' := by
  have hwf := Lib.hid (wf_of_sla hl)
  obtain ⟨i0, hi, hz0, hz1, hz2⟩ := info_parts infoT
  obtain ⟨n, hn⟩ : ∃ n, n = l.length := ⟨_, rfl⟩
  rw [← hn]
  rw [← hn] at hreach
  replace hn := Lib.hid hn
  go_enter Try.func48, Try.ntmps48
  go_wp2_with fail
  go_step3
  go_wp2_with fail
  go_step3
  go_wp2_with fail
  go_loopg [3, 10] n (fun g v i wr => ∃ (k : Nat), k + g = n ∧ i = .int .i64 k ∧ OwnT wr w.heap.size v (candT l k) ∧ Below w.heap.size w wr)
  case atStart => exact ⟨0, by omega, rfl, OwnT.nil _ _, Below.refl _ _⟩
  case round =>
    obtain ⟨k, hk, rfl, hown, hbel⟩ := hrel
    have hsz := hbel.size
    cases gk with
    | succ g =>
      have hlt : k < n := by omega
      have hkl : k < l.length := by rw [← hn.out]; exact hlt
      obtain ⟨b1, o1, rfl, hb1, _⟩ := hl.addr (by omega)
      obtain ⟨x, hx⟩ : ∃ x, l[k] = x := ⟨_, rfl⟩
      obtain ⟨e0, e1, _, _⟩ := RTime.at (imp_times hl (hbel.mono hB)) hkl hx
      have hg := fun W => good_t x W
      have hxw : wfT x := hwf.out x (by rw [← hx]; exact List.getElem_mem hkl)
      have cs := cand_skip hkl hx
      have ca := cand_add hkl hx
      cases h1 : goodT x with
      | false =>
        have hcs := cs (by simp [skipT, h1])
        rw [h1] at hg
        rw [← hcs] at hown
        clear h1 cs ca hx hcs
        go_wp2_with fail
        refine (hg _).mono ?_
        rintro e w2 ⟨rfl, b2⟩
        have b3 : Below wr.heap.size wr w2 := ((Below.refl _ _).alloc (Nat.le_refl _) _).trans (b2.mono (by simp))
        have hbu := hbel.trans (b3.mono hsz)
        have hown2 := hown.below b3 (Nat.le_refl _)
        clear hg
        go_wp2_with fail
        go_roundg g
        case rel => exact ⟨k + 1, by omega, by go_num, hown2, hbu⟩
        case measure => omega
      | true =>
        rw [h1] at hg
        replace h1 := Lib.hid h1
        replace cs := Lib.hid cs
        replace ca := Lib.hid ca
        replace hx := Lib.hid hx
        go_wp2_with fail
        refine (hg _).mono ?_
        rintro e w2 ⟨rfl, b2⟩
        have b3 : Below wr.heap.size wr w2 := ((Below.refl _ _).alloc (Nat.le_refl _) _).trans (b2.mono (by simp))
        have hbu := hbel.trans (b3.mono hsz)
        have hown2 := hown.below b3 (Nat.le_refl _)
        have hT : Blk w2 wr.heap.size #[.int .i64 x.fEpoch, .int .i64 x.fRound] 45 := (Blk.new _ _ _).below b2 (by simp)
        obtain ⟨tb, htb⟩ : ∃ tb, tb = wr.heap.size := ⟨_, rfl⟩
        rw [← htb] at hT ⊢
        clear hg b2 htb e0 e1
        go_wp2_with fail
        go_loopg [20] n (fun gg i wx => ∃ (j : Nat), j + gg = n ∧ i = .int .i64 j ∧ Below w2.heap.size w2 wx ∧ Hid (∀ q (hq : q < l.length), q < j → hitT l k x l[q] q = false))
        case atStart => exact ⟨0, by omega, rfl, Below.refl _ _, Lib.hid (fun q _ h => absurd h (Nat.not_lt_zero _))⟩
        case round =>
          obtain ⟨j, hj, rfl, hbx, hno⟩ := hrel
          have hszx := hbx.size
          cases gk with
          | succ gg =>
            have hltj : j < n := by omega
            have hjl : j < l.length := by rw [← hn.out]; exact hltj
            obtain ⟨y, hy⟩ : ∃ y, l[j] = y := ⟨_, rfl⟩
            have hbw := hbu.trans (hbx.mono hbu.size)
            obtain ⟨g0, g1, _, _⟩ := RTime.at (imp_times hl (hbw.mono hB)) hjl hy
            have hTx := hT.below hbx hT.lt
            have t0 := hTx.cellAt (i := 0) (v := .int .i64 x.fEpoch) rfl
            have t1 := hTx.cellAt (i := 1) (v := .int .i64 x.fRound) rfl
            have htl := hTx.lt
            have hg := fun W => good_t y W
            have hle := fun W => le_t y x W
            have hneq := fun W => neq_time y.fEpoch y.fRound x.fEpoch x.fRound W
            have hb1x : b1 < wr.heap.size := by have := hbw.size; omega
            have hsm : (y.fEpoch == x.fEpoch && y.fRound == x.fRound) = sameT y x := by
              unfold sameT
              rw [Bool.eq_iff_iff]; simp
            simp only [hsm] at hneq
            have hgo : hitT l k x y j = false → ∀ q (hq : q < l.length), q < j + 1 → hitT l k x l[q] q = false := fun h q hq hqj => by
              by_cases he : q = j
              · subst he; rw [hy]; exact h
              · exact hno.out q hq (by omega)
            have hhit : hitT l k x y j = true → candT l (k + 1) = candT l k := fun h => cs.out (skip_hit hjl hy h)
            replace hgo := Lib.hid hgo
            replace hhit := Lib.hid hhit
            clear hy hsm hT hTx hno
            cases h2 : goodT y with
            | false =>
              have hno2 := Lib.hid (hgo.out (by simp [hitT, h2]))
              rw [h2] at hg
              clear h2 hgo hhit hneq hle
              go_wp2_with fail
              refine (hg _).mono ?_
              rintro e w4 ⟨rfl, b4⟩
              have b5 : Below w2.heap.size w2 w4 := hbx.trans ((((Below.refl _ _).alloc (Nat.le_refl _) _).trans (b4.mono (by simp))).mono hszx)
              clear hg
              go_wp2_with fail
              go_roundg gg
              case measure => omega
              case rel => exact ⟨j + 1, by omega, by go_num, b5, hno2⟩
            | true =>
              rw [h2] at hg
              cases h3 : leT y x with
              | false =>
                have hno2 := Lib.hid (hgo.out (by simp [hitT, h3]))
                rw [h3] at hle
                clear h2 h3 hgo hhit hneq
                go_wp2_with fail
                refine (hg _).mono ?_
                rintro e w4 ⟨rfl, b4⟩
                obtain ⟨hc4, hf4⟩ := bcell b4
                clear hg
                go_wp2_with fail
                refine (hle _).mono ?_
                rintro e w5 ⟨rfl, b5⟩
                have b6 : Below w2.heap.size w2 w5 := hbx.trans ((((Below.refl _ _).alloc (Nat.le_refl _) _).trans ((b4.trans (b5.mono b4.size)).mono (by simp))).mono hszx)
                clear hle hc4 hf4
                go_wp2_with fail
                go_roundg gg
                case measure => omega
                case rel => exact ⟨j + 1, by omega, by go_num, b6, hno2⟩
              | true =>
                rw [h3] at hle
                cases h4 : sameT y x with
                | false =>
                  have hca := hhit.out (by simp [hitT, h2, h3, h4])
                  rw [← hca] at hown2
                  rw [h4] at hneq
                  clear h2 h3 h4 hgo hhit hca
                  go_wp2_with fail
                  refine (hg _).mono ?_
                  rintro e w4 ⟨rfl, b4⟩
                  obtain ⟨hc4, hf4⟩ := bcell b4
                  clear hg
                  go_wp2_with fail
                  refine (hle _).mono ?_
                  rintro e w5 ⟨rfl, b5⟩
                  have hc5 : ∀ b o, b < wr.heap.size + 1 → w5.cell? ⟨b, o, none⟩ = (wr.alloc (.cells #[.int .i64 y.fEpoch, .int .i64 y.fRound] 45)).cell? ⟨b, o, none⟩ := fun b o h => (b5.cell (p := ⟨b, o, none⟩) (by have := b4.size; simp at this; simp; omega)).trans (b4.cell (p := ⟨b, o, none⟩) (by simpa using h))
                  have b6 : Below w2.heap.size w2 w5 := hbx.trans ((((Below.refl _ _).alloc (Nat.le_refl _) _).trans ((b4.trans (b5.mono b4.size)).mono (by simp))).mono hszx)
                  have hbu6 := hbu.trans (b6.mono hbu.size)
                  have hown6 := hown2.below b6 (Nat.le_refl _)
                  clear hle hc4 hf4 b4 b5
                  go_wp2_with fail
                  go_roundg g
                  case measure => omega
                  case rel => exact ⟨k + 1, by omega, by go_num, hown6, hbu6⟩
                | true =>
                  rw [h4] at hneq
                  by_cases hjk : j < k
                  · have hca := hhit.out (by simp [hitT, h2, h3, hjk])
                    rw [← hca] at hown2
                    clear h2 h3 h4 hgo hhit hca
                    go_wp2_with fail
                    refine (hg _).mono ?_
                    rintro e w4 ⟨rfl, b4⟩
                    obtain ⟨hc4, hf4⟩ := bcell b4
                    clear hg
                    go_wp2_with fail
                    refine (hle _).mono ?_
                    rintro e w5 ⟨rfl, b5⟩
                    have hc5 : ∀ b o, b < wr.heap.size + 1 → w5.cell? ⟨b, o, none⟩ = (wr.alloc (.cells #[.int .i64 y.fEpoch, .int .i64 y.fRound] 45)).cell? ⟨b, o, none⟩ := fun b o h => (b5.cell (p := ⟨b, o, none⟩) (by have := b4.size; simp at this; simp; omega)).trans (b4.cell (p := ⟨b, o, none⟩) (by simpa using h))
                    have b6 : Below w2.heap.size w2 w5 := hbx.trans ((((Below.refl _ _).alloc (Nat.le_refl _) _).trans ((b4.trans (b5.mono b4.size)).mono (by simp))).mono hszx)
                    have hbu6 := hbu.trans (b6.mono hbu.size)
                    have hown6 := hown2.below b6 (Nat.le_refl _)
                    clear hle hc4 hf4 b4 b5
                    go_wp2_with fail
                    go_roundg g
                    case measure => omega
                    case rel => exact ⟨k + 1, by omega, by go_num, hown6, hbu6⟩
                  · have hno2 := Lib.hid (hgo.out (by simp [hitT, h4, hjk]))
                    clear h2 h3 h4 hgo hhit
                    go_wp2_with fail
                    refine (hg _).mono ?_
                    rintro e w4 ⟨rfl, b4⟩
                    obtain ⟨hc4, hf4⟩ := bcell b4
                    clear hg
                    go_wp2_with fail
                    refine (hle _).mono ?_
                    rintro e w5 ⟨rfl, b5⟩
                    have hc5 : ∀ b o, b < wr.heap.size + 1 → w5.cell? ⟨b, o, none⟩ = (wr.alloc (.cells #[.int .i64 y.fEpoch, .int .i64 y.fRound] 45)).cell? ⟨b, o, none⟩ := fun b o h => (b5.cell (p := ⟨b, o, none⟩) (by have := b4.size; simp at this; simp; omega)).trans (b4.cell (p := ⟨b, o, none⟩) (by simpa using h))
                    have b6 : Below w2.heap.size w2 w5 := hbx.trans ((((Below.refl _ _).alloc (Nat.le_refl _) _).trans ((b4.trans (b5.mono b4.size)).mono (by simp))).mono hszx)
                    clear hle hc4 hf4 b4 b5
                    go_wp2_with fail
                    go_roundg gg
                    case measure => omega
                    case rel => exact ⟨j + 1, by omega, by go_num, b6, hno2⟩
          | zero =>
            have hca := ca.out (skip_none h1.out (fun q hq => hno.out q hq (by have := hn.out; omega)))
            have hTx := hT.below hbx hT.lt
            have t0 := hTx.cellAt (i := 0) (v := .int .i64 x.fEpoch) rfl
            have t1 := hTx.cellAt (i := 1) (v := .int .i64 x.fRound) rfl
            have htl := hTx.lt
            have hbw := hbu.trans (hbx.mono hbu.size)
            have hown3 := hown2.below hbx (Nat.le_refl _)
            have hcl := candT_len l k
            have hltj : ¬ ((j : Int) < (n : Int)) := by omega
            replace hca := Lib.hid hca
            obtain ⟨cl, hcl'⟩ : ∃ cl, cl = candT l k := ⟨_, rfl⟩
            rw [← hcl'] at hown3 hcl
            rw [← hcl'] at hca
            obtain ⟨ec, rc, hxe⟩ : ∃ a b, x = ⟨a, b⟩ := ⟨_, _, rfl⟩
            subst hxe
            clear hcl' hT hTx hown hown2 hno
            go_wp2_with (at_builtin; (refine wpList_app1 rfl _ _ 51 rfl Try.underlying51 hi hz0 hz1 hz2 rfl (by decide) (enc := encT) ⟨ec, rc⟩ rfl hown3.1 rfl (encT_len _) (encT_one _) ?hb1 ?hb2 hbw.size ?next))
            case hb1 => omega
            case hb2 => unfold maxLen; omega
            case next =>
            intro a1 cp1 w4 hown4 hb4 _
            have hbu4 := hbw.trans hb4
            have hwL : ∀ z ∈ cl, wfT z := hown3.2
            clear hb4 hown3
            go_wp2_with fail
            go_roundg g
            case measure => omega
            case rel =>
              refine ⟨k + 1, by omega, by go_num, ?_, hbu4⟩
              rw [hca.out]
              refine ⟨hown4, ?_⟩
              intro z hz
              simp only [List.mem_append, List.mem_singleton] at hz
              rcases hz with hz | rfl
              · exact hwL z hz
              · exact hxw
    | zero =>
      obtain rfl : k = n := by omega
      have hcl := candT_len l k
      have hlt : ¬ ((k : Int) < (k : Int)) := by omega
      have hso := sort_any (candT l k) u3 wr w.heap.size hown (by omega)
      have hfr : ∀ ys : List TTime, ys.Perm (candT l k) → (ys.Pairwise fun a b => a.fEpoch ≤ b.fEpoch) → IsFront l ys := fun ys h1 h2 => front_of_sorted (by rw [← hn.out]; exact h1) h2
      replace hfr := Lib.hid hfr
      have hob := hown.1.lt
      go_wp2_with fail
      refine hso.mono ?_
      rintro e w5 ⟨rfl, ys, hyl, hyp, hys, hown5, hg5⟩
      have hb5 : Below w.heap.size w w5 := hbel.grown hg5 hsz (fun q hq => (hob q hq).1)
      have hf5 := Lib.hid (hfr.out ys hyp hys)
      clear hyp hys hyl hso
      go_wp2_with fail
      try rw [Exit.noGoto_ret]
      go_ret
      exact ⟨_, ys, rfl, hown5, hf5.out, hb5⟩
end Go.Proofs.Ytjmbafcpbagpdaa
