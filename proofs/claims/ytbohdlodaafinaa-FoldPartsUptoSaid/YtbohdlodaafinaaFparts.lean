/- FoldParts: the walk. -/
import Derived.Test.YtbohdlodaafinaaForders
namespace Go.Proofs.Ytbohdlodaafinaa
open Go.RowKit Fold
set_option linter.unusedVariables false

theorem u32_in2 {a : Int} (h0 : 0 ≤ a) (h1 : a < 4294967296) : IntKind.u32.wrap a = a := by
  have : IntKind.u32.wrap a = a % 4294967296 := rfl
  rw [this, Int.emod_eq_of_lt h0 h1]

/-- What the parts of a list and the list itself come to. -/
theorem partsOf (w : Int) (a b : List Nat) (hw : ¬ (w < 0 ∨ 6 < w)) :
    (allB w a = false ∧ allB w b = false ∧ allB w (a ++ b) = false) ∨ (allB w a = false ∧ allB w b = true ∧ allB w (a ++ b) = true ∧ allN w a = 0 ∧ allN w (a ++ b) = allN w b) ∨
    (allB w a = true ∧ allB w b = false ∧ allB w (a ++ b) = true ∧ allN w b = 0 ∧ allN w (a ++ b) = allN w a) ∨
    (allB w a = true ∧ allB w b = true ∧ allB w (a ++ b) = true ∧ allN w (a ++ b) = joinN w (allN w a) (allN w b)) := by
  simp only [allB, allN, if_neg hw, allO_append]
  cases a with
  | nil =>
    cases b with
    | nil => left; simp
    | cons u r =>
      right; left
      refine ⟨rfl, rfl, rfl, rfl, ?_⟩
      cases h : allO w (u :: r) <;> simp [allO, optJ]
  | cons v q =>
    cases b with
    | nil =>
      right; right; left
      refine ⟨rfl, rfl, by simp, rfl, ?_⟩
      cases h : allO w (v :: q) <;> simp [allO, optJ]
    | cons u r =>
      right; right; right
      refine ⟨rfl, rfl, by simp, ?_⟩
      have h1 := allO_isSome w (v :: q)
      have h2 := allO_isSome w (u :: r)
      cases h : allO w (v :: q) with
      | none => rw [h] at h1; simp at h1
      | some x =>
        cases h' : allO w (u :: r) with
        | none => rw [h'] at h2; simp at h2
        | some y => simp [optJ]

set_option maxHeartbeats 1000000 in
theorem parts_walk (w : Int) (l r : List Nat) (ao : Option Addr) (cap : Nat) (bo : Option Addr) (bap : Nat) (W : World) (h : UR W W.heap.size ao cap l) (hr : UR W W.heap.size bo bap r) (hreach : (l.length + r.length) * 4 ≤ 140737488351232) :
    Calls Try.prog 6 #[.int .i64 w, .slice ao l.length cap, .slice bo r.length bap] W fun e W' => e = .returned (.bool true) ∧ Below W.heap.size W W' := by
  obtain ⟨i0, hi, hz0, hz1, hz2⟩ := info_parts info32
  obtain ⟨n, hn⟩ : ∃ n, n = l.length := ⟨_, rfl⟩
  obtain ⟨m, hm⟩ : ∃ m, m = r.length := ⟨_, rfl⟩
  have hall := fun W' (h' : UR W' W.heap.size ao cap l) => all_any w l ao cap _ W' h'
  have hallr := fun W' (h' : UR W' W.heap.size bo bap r) => all_any w r bo bap _ W' h'
  have hone := val_one l
  have honer := val_one r
  have hnews := fun W' (h' : UR W' W.heap.size ao cap l) => h'.news
  have hnewsr := fun W' (h' : UR W' W.heap.size bo bap r) => h'.news
  have hnil := h.nil0
  have hnilr := hr.nil0
  have hln : (l.map val).length = n * 1 := by simp [hn]
  have hlnr : (r.map val).length = m * 1 := by simp [hm]
  rw [← hn] at hreach hall hnil ⊢
  rw [← hm] at hreach hallr hnilr ⊢
  replace hn := Lib.hid hn
  replace hln := Lib.hid hln
  replace hm := Lib.hid hm
  replace hlnr := Lib.hid hlnr
  have hpp := partsOf w l r
  have hx := allN_lt w l h.lt
  have hy := allN_lt w r hr.lt
  obtain ⟨x, hx'⟩ : ∃ x, x = allN w l := ⟨_, rfl⟩
  obtain ⟨ok, hok⟩ : ∃ ok, ok = allB w l := ⟨_, rfl⟩
  obtain ⟨y, hy'⟩ : ∃ y, y = allN w r := ⟨_, rfl⟩
  obtain ⟨is, his⟩ : ∃ is, is = allB w r := ⟨_, rfl⟩
  obtain ⟨z, hz'⟩ : ∃ z, z = allN w (l ++ r) := ⟨_, rfl⟩
  obtain ⟨al, hal⟩ : ∃ al, al = allB w (l ++ r) := ⟨_, rfl⟩
  rw [← hx', ← hok] at hall
  rw [← hy', ← his] at hallr
  rw [← hx'] at hx
  rw [← hy'] at hy
  rw [← hx', ← hok, ← hy', ← his, ← hz', ← hal] at hpp
  replace hz' := Lib.hid hz'
  replace hal := Lib.hid hal
  clear hx' hok hy' his
  go_enter Try.func6, Try.ntmps6
  go_wp2_with fail
  refine (known_any W).mono ?_
  rintro e w1 ⟨rfl, b1⟩
  have h1 := h.below b1
  have h2 := hr.below b1
  go_wp2_with fail
  refine (hall w1 h1).mono ?_
  rintro e w1' ⟨rfl, rfl⟩
  go_wp2_with fail
  refine (hallr w1 h2).mono ?_
  rintro e w1' ⟨rfl, rfl⟩
  have hown : (w1.alloc (.cells #[] 22)).ownsRow W.heap.size 22 1 (.slice (some ⟨w1.heap.size, 0, none⟩) 0 0) 0 [] := World.ownsRow_lit w1 #[] 0 b1.size (by unfold maxLen; omega) rfl
  have hnw := hnews _ (h1.below ((Below.refl W.heap.size w1).alloc b1.size (.cells #[] 22)))
  clear hall hnews hallr
  replace hnw := Lib.hid hnw
  replace hone := Lib.hid hone
  replace hnil := Lib.hid hnil
  replace hown := Lib.hid hown
  replace honer := Lib.hid honer
  replace hnilr := Lib.hid hnilr
  replace hnewsr := Lib.hid hnewsr
  replace hpp := Lib.hid hpp
  set_option maxRecDepth 100000 in
  go_wp2_with (at_builtin; (refine wpList_append_any rfl _ _ 30 rfl W.heap.size 22 i0 (.int .u32 0) 1 4 Try.underlying30 hi hz0 hz1 hz2 rfl (by decide) (.slice (some ⟨w1.heap.size, 0, none⟩) 0 0) 0 [] rfl hown.out ao n cap (l.map val) rfl hln.out hnil.out hnw.out hone.out ?h63 ?hby ?hbs ?next))
  case h63 => unfold maxLen; omega
  case hby => omega
  case hbs => have := b1.size; simp; omega
  case next =>
  intro v2 w2 hown2 hg2 hne2
  have b2 : Below W.heap.size W w2 := Below.grown (b1.alloc b1.size _) hg2 (by have := b1.size; simp; omega) (fun j hj => by cases hj; exact b1.size)
  obtain ⟨g, cap2, rfl⟩ := hown2.shape hne2
  have hnw2 := hnewsr.out _ (hr.below b2)
  replace hnw2 := Lib.hid hnw2
  have hown3 := hown2
  replace hown3 := Lib.hid hown3
  clear hown hnw hone hnil hg2 hne2 hln hown2
  set_option maxRecDepth 100000 in
  go_wp2_with (at_builtin; (refine wpList_append_any rfl _ _ 30 rfl W.heap.size 22 i0 (.int .u32 0) 1 4 Try.underlying30 hi hz0 hz1 hz2 rfl (by decide) (.slice (some ⟨g, 0, none⟩) n cap2) n (l.map val) rfl hown3.out bo m bap (r.map val) rfl hlnr.out hnilr.out hnw2.out honer.out ?h63 ?hby ?hbs ?next))
  case h63 => unfold maxLen; omega
  case hby => omega
  case hbs => have := b2.size; omega
  case next =>
  intro v3 w3 hown4 hg4 hne4
  have b3 : Below W.heap.size W w3 := Below.grown b2 hg4 b2.size (fun j hj => by cases hj; exact (hown3.out.lt g rfl).1)
  obtain ⟨g3, cap3, rfl⟩ := hown4.shape (by simpa using hne4)
  rw [← List.map_append] at hown4
  obtain ⟨hxx, hUR, _⟩ := UR.of_own hown4 (fun x hx => by
    rcases List.mem_append.1 hx with h' | h'
    · exact h.lt x h'
    · exact hr.lt x h')
  have hall2 := all_any w (l ++ r) (some ⟨g3, 0, none⟩) cap3 _ w3 hUR
  rw [← hxx, ← hz'.out, ← hal.out] at hall2
  clear hxx hUR hown3 hown4 hg4 hne4 hnw2 honer hnilr hlnr hnewsr
  go_wp2_with fail
  refine hall2.mono ?_
  rintro e w1' ⟨rfl, rfl⟩
  clear hall2
  have hend : (Ending.returned (Value.bool true) = Ending.returned (Value.bool true)) ∧ Below W.heap.size W w3 := ⟨rfl, b3⟩
  by_cases hw0 : w < 0
  · go_wp2_with fail
    go_ret
    exact ⟨rfl, b3⟩
  by_cases hw6 : 6 < w
  · go_wp2_with fail
    go_ret
    exact ⟨rfl, b3⟩
  have hq := hpp.out (by omega)
  clear hpp
  rcases hq with ⟨rfl, rfl, rfl⟩ | ⟨rfl, rfl, rfl, rfl, hzy⟩ | ⟨rfl, rfl, rfl, rfl, hzy⟩ | ⟨rfl, rfl, rfl, hzy⟩
  · go_wp2_with fail
    go_ret
    exact ⟨rfl, b3⟩
  · subst hzy
    have hwz : IntKind.u32.wrap (z : Int) = z := u32_in2 (by omega) (by omega)
    go_wp2_with fail
    go_ret
    exact ⟨by simp, b3⟩
  · subst hzy
    have hwz : IntKind.u32.wrap (z : Int) = z := u32_in2 (by omega) (by omega)
    go_wp2_with fail
    go_ret
    exact ⟨by simp, b3⟩
  · subst hzy
    go_wp2_with fail
    refine (join_any w x y w3 hx hy).mono ?_
    rintro e w1' ⟨rfl, rfl⟩
    go_wp2_with fail
    go_ret
    exact ⟨rfl, b3⟩

theorem parts_row {w : World} (a0 : Int) (w0 : (Lit.int .i64 a0).wf = true) (ao : Option Addr) (len cap : Nat) (xs : List Int) (hx : RSl w.heap.size 1 (RI .u32) w (Value.cells (.slice ao len cap)).toList xs) (hz : cap ≤ 1048576)
    (bo : Option Addr) (bl bap : Nat) (ys : List Int) (hy : RSl w.heap.size 1 (RI .u32) w (Value.cells (.slice bo bl bap)).toList ys) (hz2 : bap ≤ 1048576) :
    Calls Try.prog 6 #[.int .i64 a0, .slice ao len cap, .slice bo bl bap] w fun e w' => e = .returned (.bool true) ∧ Below w.heap.size w w' := by
  obtain ⟨l, rfl, h⟩ := ur_arg hx
  obtain ⟨r, rfl, h'⟩ := ur_arg hy
  have hl := h.le
  have hl' := h'.le
  exact parts_walk a0 l r ao cap bo bap w h h' (by omega)
end Go.Proofs.Ytbohdlodaafinaa
