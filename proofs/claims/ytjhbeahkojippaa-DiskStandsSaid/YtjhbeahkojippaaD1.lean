/- Disk: the document's disk: Right, find, Get. -/
import Derived.Test.YtjhbeahkojippaaDn
namespace Go.Proofs.Ytjhbeahkojippaa
open Go.RowKit Go.Maps
attribute [local go_sem] Oper.semAt_some
set_option linter.unusedVariables false
set_option linter.unusedSimpArgs false

/-- A file of the document's list. -/
def encFl (p : ByteArray × FV) : List Value := [.string p.1, p.2.v]
theorem encFl_len (p : ByteArray × FV) : (encFl p).length = 2 := rfl
theorem encFl_one (p : ByteArray × FV) : ∀ u ∈ encFl p, u.oneCell' = true := by
  intro u hu
  simp only [encFl, FV.v, List.mem_cons, List.not_mem_nil, or_false] at hu
  rcases hu with rfl | rfl <;> rfl
abbrev FlAt (w : World) (base : Nat) (v : Value) (l : List (ByteArray × FV)) : Prop := OwnL encFl w base 83 2 v l
theorem getL_take {α : Type} {l : List (ByteArray × α)} {s : ByteArray} : ∀ {i : Nat}, (∀ j (h : j < l.length), j < i → (l[j]).1 ≠ s) → ∀ (hi : i < l.length), (l[i]).1 = s → getL l s = some (l[i]).2 := by
  intro i h hi he
  unfold getL
  have : l.find? (fun p => decide (p.1 = s)) = some l[i] := by
    rw [List.find?_eq_some_iff_getElem]
    exact ⟨by simpa using he, i, hi, rfl, fun j hj => by simpa using h j (by omega) hj⟩
  rw [this]
  rfl

set_option maxRecDepth 100000 in
set_option maxHeartbeats 1000000 in
theorem find_any (s : ByteArray) (base : Nat) (v : Value) (l : List (ByteArray × FV)) (w : World) (h : FlAt w base v l) (hl : l.length ≤ 1000000) :
    Calls Try.prog 56 #[v, .string s] w fun e w' => w' = w ∧ ((e = .returned (.int .i64 (-1)) ∧ getL l s = none) ∨ ∃ (i : Nat) (c : ByteArray × FV), i < l.length ∧ l[i]? = some c ∧ e = .returned (.int .i64 i) ∧ getL l s = some c.2) := by
  obtain ⟨ao, cap, rfl, hsl⟩ := h.sla (E := fun _ cs x => cs = encFl x) encFl_len (fun _ _ => rfl)
  obtain ⟨n, hn⟩ : ∃ n, n = l.length := ⟨_, rfl⟩
  rw [← hn] at hl ⊢
  replace hn := Lib.hid hn
  clear h
  go_enter Try.func56, Try.ntmps56
  go_wp2_with fail
  go_loopw [5] (fun x5 wr => ∃ i : Nat, i ≤ n ∧ x5 = .int .i64 i ∧ wr = w ∧ ∀ j (h : j < l.length), j < i → (l[j]).1 ≠ s) (fun x5 _ => n - (intOf x5).toNat)
  case atStart => exact ⟨0, Nat.zero_le _, rfl, rfl, fun _ _ h => absurd h (Nat.not_lt_zero _)⟩
  case round =>
    obtain ⟨i, hi, rfl, rfl, hall⟩ := hrel
    replace hall := Lib.hid hall
    by_cases hlt : i < n
    · have hil : i < l.length := by rw [← hn.out]; exact hlt
      obtain ⟨b1, o1, rfl, hb1, _⟩ := hsl.addr (by omega)
      obtain ⟨c, hce⟩ : ∃ c, l[i] = c := ⟨_, rfl⟩
      obtain ⟨cs, hcl, h6, h7⟩ := hsl.get i hil
      rw [hce] at h7
      subst h7
      have e0 : wr.cell? ⟨b1, o1 + i * 2, none⟩ = some (.string c.1) := h6 0 (by omega)
      have d1 : decide ((i : Int) < (n : Int)) = true := by simp; omega
      have hq := str_eq c.1 s
      clear h6 hcl
      by_cases hcs : c.1 = s
      · rw [decide_eq_true hcs] at hq
        have hfin : getL l s = some (l[i]).2 := getL_take hall.out hil (by rw [hce]; exact hcs)
        replace hfin := Lib.hid hfin
        replace hce := Lib.hid hce
        replace hcs := Lib.hid hcs
        go_wp2_with fail
        go_ret
        exact ⟨rfl, .inr ⟨i, _, hlt, List.getElem?_eq_getElem hil, rfl, hfin.out⟩⟩
      · rw [decide_eq_false hcs] at hq
        have hall2 : ∀ j (h : j < l.length), j < i + 1 → (l[j]).1 ≠ s := fun j hj hji => by
          rcases Nat.lt_or_ge j i with h | h
          · exact hall.out j hj h
          · obtain rfl : j = i := by omega
            rw [hce]; exact hcs
        replace hall2 := Lib.hid hall2
        replace hce := Lib.hid hce
        replace hcs := Lib.hid hcs
        go_wp2_with fail
        go_roundw
        case rel => exact ⟨i + 1, by omega, by go_num, trivial, hall2.out⟩
        case measure => simp [intOf]; omega
    · obtain rfl : i = n := by omega
      have hno : getL l s = none := getL_none.2 (fun p hp => by
        obtain ⟨j, hj, rfl⟩ := List.getElem_of_mem hp
        exact hall.out j hj (by rw [hn.out]; exact hj))
      replace hno := Lib.hid hno
      have d9 : decide ((i : Int) < (i : Int)) = false := by simp
      go_wp2_with fail
      go_ret
      exact ⟨rfl, .inl ⟨rfl, hno.out⟩⟩

set_option maxRecDepth 100000 in
set_option maxHeartbeats 1000000 in
theorem rget_any (s : ByteArray) (base : Nat) (v : Value) (l : List (ByteArray × FV)) (w : World) (h : FlAt w base v l) (hl : l.length ≤ 1000000) :
    Calls Try.prog 46 #[v, .string s] w fun e w' => w' = w ∧ e = .returned (.tuple #[(fileOf l s).v, .bool (getL l s).isSome]) := by
  have hf := find_any s base v l w h hl
  obtain ⟨ao, cap, rfl, hsl⟩ := h.sla (E := fun _ cs x => cs = encFl x) encFl_len (fun _ _ => rfl)
  obtain ⟨n, hn⟩ : ∃ n, n = l.length := ⟨_, rfl⟩
  rw [← hn] at hl hf ⊢
  replace hn := Lib.hid hn
  have hfo : fileOf l s = (getL l s).getD FV.none := rfl
  obtain ⟨f, hf2⟩ : ∃ f, f = fileOf l s := ⟨_, rfl⟩
  obtain ⟨is, his⟩ : ∃ is, is = (getL l s).isSome := ⟨_, rfl⟩
  rw [← hf2, ← his]
  rw [← hf2] at hfo
  replace hfo := Lib.hid hfo
  replace his := Lib.hid his
  clear h hf2
  go_enter Try.func46, Try.ntmps46
  go_wp2_with fail
  refine hf.mono ?_
  rintro e w1 ⟨hw1, (⟨rfl, hg⟩ | ⟨i, c, hi, hci, rfl, hg⟩)⟩
  · obtain rfl : w = w1 := hw1.symm
    have h1 := hfo.out
    have h2 := his.out
    rw [hg] at h1 h2
    obtain rfl : f = FV.none := h1
    obtain rfl : is = false := h2
    clear hg hf hsl
    try clear h1
    try clear h2
    dsimp only
    go_wp2_with fail
    go_ret2
    exact ⟨rfl, rfl⟩
  · obtain rfl : w = w1 := hw1.symm
    have h1 := hfo.out
    have h2 := his.out
    rw [hg] at h1 h2
    obtain rfl : is = true := h2
    obtain ⟨b1, o1, rfl, hb1, _⟩ := hsl.addr (by have := hn.out; omega)
    obtain ⟨hil, hce⟩ := List.getElem?_eq_some_iff.1 hci
    obtain ⟨cs, hcl, h6, h7⟩ := hsl.get i hil
    rw [hce] at h7
    subst h7
    obtain rfl : f = c.2 := h1
    have e1 : w.cell? ⟨b1, o1 + i * 2 + 1, none⟩ = some c.2.v := h6 1 (by omega)
    have d1 : decide ((i : Int) < 0) = false := by simp
    have hin := hi
    unfold FV.v at e1
    clear h6 hcl hg hf hsl hce hci
    try clear h1
    try clear h2
    dsimp only
    go_wp2_with fail
    go_ret2
    exact ⟨rfl, rfl⟩
end Go.Proofs.Ytjhbeahkojippaa
