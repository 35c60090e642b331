/- Disk: the document's disk as it lies; Right, ready, Used. -/
import Derived.Test.YtjhbeahkojippaaD4
namespace Go.Proofs.Ytjhbeahkojippaa
open Go.RowKit Go.Maps
attribute [local go_sem] Oper.semAt_some
set_option linter.unusedVariables false
set_option linter.unusedSimpArgs false

structure RX where
  nv : Value
  sv : Value
  cv : Value
  now : List (ByteArray × FV)
  safe : List (ByteArray × FV)
  chs : List CH
/-- The document's disk as it lies: it reads as M. -/
structure Rf (w : World) (base mb : Nat) (r : RX) (M : DM) : Prop where
  blk : Blk w mb #[.int .i64 M.room, .bool M.fails, r.nv, r.sv, r.cv] 45
  now : FlAt w base r.nv r.now
  safe : FlAt w base r.sv r.safe
  row : OwnL encC w base 91 4 r.cv r.chs
  filn : ∀ p ∈ r.now, FileAt w base p.2.v p.2.bs
  fils : ∀ p ∈ r.safe, FileAt w base p.2.v p.2.bs
  filc : ∀ c ∈ r.chs, FileAt w base c.d.v c.d.bs
  nq : mapL FV.bs r.now = M.now
  sq : mapL FV.bs r.safe = M.safe
  chq : r.chs.map CH.abs = M.chs
  bb : base ≤ mb
namespace Rf
variable {w w' : World} {base mb : Nat} {r : RX} {M : DM} {S : Nat → Prop}
/-- It stays where neither its block nor a row of its own nor bytes turn. -/
theorem keep (h : Rf w base mb r M) (hc : Chg S w w') (hS : ∀ k, S k → k ≠ mb ∧ ∀ cs T, Blk w k cs T → T ≠ 83 ∧ T ≠ 91 ∧ T ≠ 5) : Rf w' base mb r M := by
  have hrow : ∀ {α : Type} {enc : α → List Value} {T : TypeId} {sz : Nat} {v : Value} {l : List α}, OwnL enc w base T sz v l → (∀ k, S k → ∀ cs T', Blk w k cs T' → T' ≠ T) → OwnL enc w' base T sz v l := fun ho hn => ho.chg hc (fun g e s => by
    rcases ho.form with ⟨h1, _⟩ | ⟨g', cap, cells, h1, h2, _⟩
    · rw [h1] at e; cases e
    · rw [h1] at e
      obtain rfl : g' = g := by simpa [Value.ownBlock] using e
      exact hn g' s _ _ h2 rfl)
  have hU : ∀ k, S k → ∀ cs, ¬ Blk w k cs 5 := fun k hk cs hb => ((hS k hk).2 cs _ hb).2.2 rfl
  exact ⟨h.blk.chg hc (fun s => (hS _ s).1 rfl), hrow h.now (fun k hk cs T hb => ((hS k hk).2 cs T hb).1), hrow h.safe (fun k hk cs T hb => ((hS k hk).2 cs T hb).1), hrow h.row (fun k hk cs T hb => ((hS k hk).2 cs T hb).2.1),
    fun p hp => (h.filn p hp).chg hc hU, fun p hp => (h.fils p hp).chg hc hU, fun c hc3 => (h.filc c hc3).chg hc hU, h.nq, h.sq, h.chq, h.bb⟩
theorem below (h : Rf w base mb r M) (hb : Below w.heap.size w w') : Rf w' base mb r M :=
  h.keep (Chg.of_below hb) (fun k hk => ⟨fun e => by have := h.blk.lt; omega, fun cs T hk2 => by have := hk2.lt; omega⟩)
end Rf

theorem index_str (t : TypeId) (ht : Try.prog.underlying t = some .string) (s : ByteArray) (i : Nat) (h : i < s.toList.length) (w : World) : (Instr.index t (.string s) (.int .i64 i)).run Try.prog w = .ok (.int .u8 (s.toList[i]).toNat) w := by
  have hsz : s.toList.length = s.size := by rw [ByteArray.toList_eq]; rfl
  have h2 : i < s.size := by omega
  have e : s.toList[i] = s[i] := by
    have : s.toList[i]? = some s[i] := by
      rw [ByteArray.toList_eq]
      show s.data.toList[i]? = some s.data[i]
      rw [Array.getElem?_toList, Array.getElem?_eq_getElem]
    rw [List.getElem?_eq_getElem h] at this
    exact Option.some.inj this
  rw [e]
  unfold Instr.index
  simp [run_underlying ht, go_sem, h2]

set_option maxRecDepth 100000 in
set_option maxHeartbeats 4000000 in
theorem rright_any (s : ByteArray) (w : World) (hs : s.size ≤ maxLen) : Calls Try.prog 57 #[.string s] w fun e w' => e = .returned (.bool (rightN s)) ∧ w' = w := by
  have hsz : s.toList.length = s.size := by rw [ByteArray.toList_eq]; rfl
  obtain ⟨res, hres⟩ : ∃ res, res = rightN s := ⟨_, rfl⟩
  rw [← hres]
  obtain ⟨n, hn⟩ : ∃ n, n = s.size := ⟨_, rfl⟩
  have hmx : n ≤ 9223372036854775807 := by rw [hn]; exact hs
  have hrq : res = (s.toList.all okC && (decide (1 ≤ n) && decide (n ≤ 32))) := by rw [hres, hn]; unfold rightN; rw [Bool.and_assoc]
  replace hsz := Lib.hid hsz
  replace hrq := Lib.hid hrq
  replace hn := Lib.hid hn
  clear hres hs
  go_enter Try.func57, Try.ntmps57
  go_wp2_with fail
  go_loopw [3] (fun x3 wr => ∃ i : Nat, i ≤ n ∧ x3 = .int .i64 i ∧ wr = w ∧ ∀ j (h : j < s.toList.length), j < i → okC s.toList[j] = true) (fun x3 _ => n - (intOf x3).toNat)
  case atStart => exact ⟨0, Nat.zero_le _, rfl, rfl, fun _ _ h => absurd h (Nat.not_lt_zero _)⟩
  case round =>
    obtain ⟨i, hi, rfl, rfl, hall⟩ := hrel
    replace hall := Lib.hid hall
    have hss : (s.size : Int) = (n : Int) := by rw [hn.out]
    by_cases hlt : i < n
    · have hil : i < s.toList.length := by rw [hsz.out, ← hn.out]; exact hlt
      obtain ⟨c, hc⟩ : ∃ c, s.toList[i] = c := ⟨_, rfl⟩
      have hix := index_str 9 Try.underlying9 s i hil
      rw [hc] at hix
      have hbad : okC c = false → res = false := fun h => by
        rw [hrq.out]
        cases hq : s.toList.all okC with
        | false => rfl
        | true => have := List.all_eq_true.1 hq _ (List.getElem_mem hil); rw [hc, h] at this; cases this
      have hnext : okC c = true → ∀ j (h : j < s.toList.length), j < i + 1 → okC s.toList[j] = true := fun h j hj hji => by
        rcases Nat.lt_or_ge j i with h2 | h2
        · exact hall.out j hj h2
        · obtain rfl : j = i := by omega
          rw [hc]; exact h
      replace hc := Lib.hid hc
      replace hbad := Lib.hid hbad
      replace hnext := Lib.hid hnext
      have hok : okC c = ((decide (97 ≤ c.toNat) && decide (c.toNat ≤ 122)) || (decide (48 ≤ c.toNat) && decide (c.toNat ≤ 57)) || c.toNat == 45) := rfl
      replace hok := Lib.hid hok
      have d1 : decide ((i : Int) < (n : Int)) = true := by simp; omega
      generalize c.toNat = m at hix hok
      go_wp2_with fail
      all_goals (first
        | (go_ret
           refine ⟨?_, rfl⟩
           rw [hbad.out (by rw [hok.out]; simp at *; omega)]
           rfl)
        | (refine ⟨⟨i + 1, by omega, by simp, trivial, hnext.out ?_⟩, by simp [intOf]; omega⟩
           rw [hok.out]
           simp at *
           omega))
    · obtain rfl : i = n := by omega
      have ha : s.toList.all okC = true := List.all_eq_true.2 fun c hc => by
        obtain ⟨j, hj, rfl⟩ := List.getElem_of_mem hc
        exact hall.out j hj (by rw [hsz.out] at hj; have := hn.out; omega)
      have d9 : decide ((i : Int) < (i : Int)) = false := by simp
      have hr := hrq.out
      rw [ha, Bool.true_and] at hr
      clear ha hrq
      by_cases h1 : 1 ≤ i
      · have e1 : decide ((1 : Int) ≤ (i : Int)) = true := by simp; omega
        rw [decide_eq_true h1, Bool.true_and] at hr
        by_cases h2 : i ≤ 32
        · have e2 : decide ((i : Int) ≤ (32 : Int)) = true := by simp; omega
          rw [decide_eq_true h2] at hr
          subst hr
          go_wp2_with fail
          go_ret
          exact ⟨rfl, rfl⟩
        · have e2 : decide ((i : Int) ≤ (32 : Int)) = false := by simp; omega
          rw [decide_eq_false h2] at hr
          subst hr
          go_wp2_with fail
          go_ret
          exact ⟨rfl, rfl⟩
      · have e1 : decide ((1 : Int) ≤ (i : Int)) = false := by simp; omega
        rw [decide_eq_false h1, Bool.false_and] at hr
        subst hr
        go_wp2_with fail
        go_ret
        exact ⟨rfl, rfl⟩
end Go.Proofs.Ytjhbeahkojippaa
