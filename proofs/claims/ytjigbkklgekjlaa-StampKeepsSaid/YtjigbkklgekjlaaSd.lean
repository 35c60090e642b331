/- Stamp: the program's closures, Covers, and the sort. -/
import Derived.Test.YtjigbkklgekjlaaSc
import Derived.Test.YtjigbkklgekjlaaBaseK
import Derived.Test.YtjigbkklgekjlaaLay
namespace Go.Proofs.Ytjigbkklgekjlaa
open Go.RowKit Go.Shelf Go.Lib Go.Sort
set_option linter.unusedVariables false

instance : Inhabited TTime := ⟨⟨0, 0⟩⟩

set_option maxHeartbeats 1000000 in
theorem front1_any (x y : TTime) (W : World) : Calls Try.prog 24 #[.agg #[.int .i64 x.fEpoch, .int .i64 x.fRound], .agg #[.int .i64 y.fEpoch, .int .i64 y.fRound]] W fun e w' =>
    e = .returned (.int .i64 (Lib.compareInt x.fEpoch y.fEpoch)) ∧ ∃ q os', w' = grow (W.drewN q) os' := by
  have hcon := fun W' => AnyG.cmp_Compare_int layCmp x.fEpoch y.fEpoch W'
  change ∀ W', Calls Try.prog 25 _ _ _ at hcon
  generalize Lib.compareInt x.fEpoch y.fEpoch = r at hcon ⊢
  go_enter Try.func24, Try.ntmps24
  go_wp2_with (go_at_call 25; refine (hcon _).mono ?_; rintro e w' ⟨rfl, rfl⟩)
  go_ret
  exact ⟨rfl, 0, _, by rw [alloc_eq_grow, alloc_eq_grow, grow_grow]; rfl⟩

def cmpE (x y : TTime) : Int := Lib.compareInt x.fEpoch y.fEpoch
theorem ltE (x y : TTime) : ltOf cmpE x y = decide (x.fEpoch < y.fEpoch) := by
  unfold ltOf cmpE Lib.compareInt
  by_cases h1 : x.fEpoch < y.fEpoch
  · simp [h1]
  · by_cases h2 : y.fEpoch < x.fEpoch <;> simp [h1, h2]
theorem swoE : SWO (ltOf cmpE) where
  irrefl x := by rw [ltE]; simp
  trans x y z h1 h2 := by rw [ltE] at *; simp at *; omega
  ntrans x y z h1 h2 := by rw [ltE] at *; simp at *; omega

theorem sort_any (xs : List TTime) (v : Value) (w : World) (base : Nat) (h : OwnT w base v xs) (hl : xs.length < 4611686018427387904) :
    Calls Try.prog 23 #[v, .func (.func 24) #[] #[]] w fun e w' => e = .returned (.tuple #[]) ∧
      ∃ ys : List TTime, ys.length = xs.length ∧ ys.Perm xs ∧ (ys.Pairwise fun a b => a.fEpoch ≤ b.fEpoch) ∧ OwnT w' base v ys ∧ w.grownBy w' v.ownBlock := by
  rcases h.1.form with ⟨rfl, rfl⟩ | ⟨g, cap, cells, rfl, _, _, _, _, _, hlt, _⟩
  · have hcon := AnyF.slices_SortFunc_none { laySort with } none 0 (.func (.func 24) #[] #[]) w
    change Calls Try.prog 23 _ _ _ at hcon
    refine hcon.mono ?_
    rintro e w' ⟨rfl, rfl⟩
    exact ⟨rfl, [], rfl, List.Perm.refl _, List.Pairwise.nil, OwnT.nil _ _, World.grownBy.refl _ _⟩
  · have eg : ∀ args w, (callFunc 24 args).run Try.prog w = .ok (.enter 24 args) w := enters_of Try.func24 (by kernel_rfl) rfl
    have hcon := AnyQ.slices_SortFunc laySort 2 Try.isAgg25 Try.sizeOf25 encT encT_len encT_one cmpE swoE 24 #[] g 0 cap xs.toArray w eg
      (fun _ _ _ _ x y => front1_any x y _) (h.1.holds encT_len (by decide)) hlt (by simpa using hl)
    change Calls Try.prog 23 _ _ _ at hcon
    simp only [List.size_toArray] at hcon
    refine hcon.mono ?_
    rintro e w' ⟨rfl, d', n, os, hp, hs, rfl⟩
    have hp2 := perm_of_permIn (d := xs.toArray) (by simpa using hp)
    have hd : d'.size = xs.length := by simpa using hp.1
    rw [← hd] at hs
    have hs2 := pairwise_of_sortedIn hs
    obtain ⟨h1, h2⟩ := h.1.sorted (n := n) (os := os) encT_len (by decide) hd
    refine ⟨rfl, d'.toList, by simpa using hd, hp2, hs2.imp (fun {a b} hab => by rw [ltE] at hab; simpa using hab), ⟨h1, fun x hx => h.2 x (hp2.mem_iff.1 hx)⟩, h2⟩

set_option maxHeartbeats 1000000 in
theorem covers1_any (t : TTime) (B : Nat) (w : World) (hT : Blk w B #[.int .i64 t.fEpoch, .int .i64 t.fRound] 25) :
    PredBelow Try.prog 27 #[.pointer (some ⟨B, 0, none⟩)] (fun x => .agg (encT x).toArray) (fun x => goodT x && leT x t) w := fun W x hb => by
  show Calls Try.prog 27 #[.agg #[.int .i64 x.fEpoch, .int .i64 x.fRound], .pointer (some ⟨B, 0, none⟩)] W fun e w' => e = .returned (.bool (goodT x && leT x t)) ∧ RowKit.Below w.heap.size w w'
  have hTW := hT.below hb hT.lt
  have hg := fun W => good_t x W
  have hle := fun W => le_t x t W
  obtain ⟨res, hres⟩ : ∃ res, res = (goodT x && leT x t) := ⟨_, rfl⟩
  rw [← hres]
  have c0 := hTW.cellAt (i := 0) (v := .int .i64 t.fEpoch) rfl
  have c1 := hTW.cellAt (i := 1) (v := .int .i64 t.fRound) rfl
  have hBl := hTW.lt
  clear hT hTW
  cases h1 : goodT x with
  | true =>
    rw [h1] at hg hres
    rw [Bool.true_and] at hres
    replace hres := Lib.hid hres
    clear h1
    go_enter Try.func27, Try.ntmps27
    go_wp2_with fail
    refine (hg _).mono ?_
    rintro e w2 ⟨rfl, b2⟩
    have d0 : w2.cell? ⟨B, 0, none⟩ = some (.int .i64 t.fEpoch) := (b2.cell (p := ⟨B, 0, none⟩) (by simp; omega)).trans (by rw [World.cell?_alloc_lt _ _ _ hBl]; exact c0)
    have d1 : w2.cell? ⟨B, 1, none⟩ = some (.int .i64 t.fRound) := (b2.cell (p := ⟨B, 1, none⟩) (by simp; omega)).trans (by rw [World.cell?_alloc_lt _ _ _ hBl]; exact c1)
    have hx0 := (bcell b2).1
    go_wp2_with fail
    refine (hle _).mono ?_
    rintro e w3 ⟨rfl, b3⟩
    have hbw : RowKit.Below w.heap.size w w3 := hb.trans ((((RowKit.Below.refl _ _).alloc (Nat.le_refl _) _).trans ((b2.trans (b3.mono b2.size)).mono (by simp))).mono hb.size)
    clear hg hle hx0
    go_wp2_with fail
    go_ret
    exact ⟨by rw [hres.out]; rfl, hbw⟩
  | false =>
    rw [h1] at hg hres
    rw [Bool.false_and] at hres
    subst hres
    clear h1
    go_enter Try.func27, Try.ntmps27
    go_wp2_with fail
    refine (hg _).mono ?_
    rintro e w2 ⟨rfl, b2⟩
    have hbw : RowKit.Below w.heap.size w w2 := hb.trans ((((RowKit.Below.refl _ _).alloc (Nat.le_refl _) _).trans (b2.mono (by simp))).mono hb.size)
    clear hg hle
    go_wp2_with fail
    go_ret
    exact ⟨rfl, hbw⟩
end Go.Proofs.Ytjigbkklgekjlaa
