/- Graph: what the document says of an operator and of a graph: plain Lean. -/
import Derived.Test.YtjmbafcpbagpdaaGreatTyGraph
import Derived.Test.YtjmbafcpbagpdaaGreatRows
import Derived.Test.YtjmbafcpbagpdaaGreatL1
import Derived.WalkSpells
import Derived.WalkLawsBesides
import Derived.Deep.DeepCutAuto
namespace Go.Proofs.YtjmbafcpbagpdaaGreat

def formB (x : TOp) : Bool :=
  if x.fKind = 1 then decide (-1 ≤ x.fArg ∧ x.fArg ≤ 7 ∧ x.fNum = 0 ∧ x.fRounds = 0 ∧ x.fTest = 0 ∧ x.fLim = 0)
  else if x.fKind = 2 then decide (0 ≤ x.fArg ∧ x.fArg ≤ 5 ∧ x.fRounds = 0 ∧ x.fTest = 0 ∧ x.fLim = 0)
  else if x.fKind = 3 then decide (0 ≤ x.fArg ∧ x.fArg ≤ 3 ∧ x.fRounds = 0 ∧ x.fTest = 0 ∧ x.fLim = 0)
  else if x.fKind = 4 ∨ x.fKind = 5 then decide (0 ≤ x.fArg ∧ x.fArg ≤ 6 ∧ x.fNum = 0 ∧ x.fRounds = 0 ∧ x.fTest = 0 ∧ x.fLim = 0)
  else if x.fKind = 6 ∨ x.fKind = 8 then decide (x.fArg = 0 ∧ x.fNum = 0 ∧ x.fRounds = 0 ∧ x.fTest = 0 ∧ x.fLim = 0)
  else if x.fKind = 7 then decide (0 ≤ x.fArg ∧ x.fArg ≤ 5 ∧ 1 ≤ x.fRounds ∧ x.fRounds ≤ 16 ∧ 0 ≤ x.fTest ∧ x.fTest ≤ 3)
  else false
def wantN (k : Int) : Nat := if k = 1 then 0 else if k = 5 ∨ k = 6 then 2 else 1
def insB (x : TOp) (i : Nat) : Bool := x.fIn.all fun k => decide (0 ≤ k ∧ k < i)
def okB (x : TOp) (i n : Nat) : Bool := formB x && decide (x.fIn.length = wantN x.fKind) && decide ((i + 1 = n) ↔ (x.fKind = 8)) && insB x i
/-- From place i on: the first operator that isn't right. -/
def badFrom (n : Nat) : List TOp → Nat → Option Nat
  | [], _ => none
  | x :: r, i => if okB x i n then badFrom n r (i + 1) else some i
def gcheck (ops : List TOp) : Nat × Nat :=
  if ops.length < 1 ∨ 16 < ops.length then (0, 2)
  else match badFrom ops.length ops 0 with
    | some i => (i, 13)
    | none => (0, 0)

theorem badFrom_hit {n : Nat} {ops : List TOp} {m : Nat} (hm : m < ops.length) (hb : okB ops[m] m n = false) (ha : ∀ k (h : k < ops.length), k < m → okB ops[k] k n = true) : badFrom n ops 0 = some m := by
  suffices ∀ (l : List TOp) (i d : Nat) (hd : d < l.length), okB l[d] (i + d) n = false → (∀ k (h : k < l.length), k < d → okB l[k] (i + k) n = true) → badFrom n l i = some (i + d) by
    have := this ops 0 m hm (by simpa using hb) (fun k h hk => by simpa using ha k h hk)
    simpa using this
  intro l
  induction l with
  | nil => intro i d hd; simp at hd
  | cons x r ih =>
    intro i d hd h1 h2
    cases d with
    | zero => simp at h1; simp [badFrom, h1]
    | succ d =>
      have h0 := h2 0 (by simp) (by omega)
      simp at h0
      simp only [badFrom, h0, if_true]
      have := ih (i + 1) d (by simpa using hd) (by simpa [Nat.add_assoc, Nat.add_comm 1 d] using h1) (fun k h hk => by
        have := h2 (k + 1) (by simpa using h) (by omega)
        simpa [Nat.add_assoc, Nat.add_comm 1 k] using this)
      rw [this]; congr 1; omega
theorem badFrom_none {n : Nat} {ops : List TOp} (ha : ∀ k (h : k < ops.length), okB ops[k] k n = true) : badFrom n ops 0 = none := by
  suffices ∀ (l : List TOp) (i : Nat), (∀ k (h : k < l.length), okB l[k] (i + k) n = true) → badFrom n l i = none from this ops 0 (fun k h => by simpa using ha k h)
  intro l
  induction l with
  | nil => intro i _; rfl
  | cons x r ih =>
    intro i h2
    have h0 := h2 0 (by simp)
    simp at h0
    simp only [badFrom, h0, if_true]
    exact ih (i + 1) (fun k h => by
      have := h2 (k + 1) (by simpa using h)
      simpa [Nat.add_assoc, Nat.add_comm 1 k] using this)

theorem insB_false {x : TOp} {i m : Nat} (hm : m < x.fIn.length) (hb : ¬ (0 ≤ x.fIn[m] ∧ x.fIn[m] < i)) : insB x i = false := by
  unfold insB
  rw [List.all_eq_false]
  exact ⟨x.fIn[m], List.getElem_mem _, by simpa using hb⟩
theorem insB_true {x : TOp} {i : Nat} (h : ∀ m (hm : m < x.fIn.length), 0 ≤ x.fIn[m] ∧ x.fIn[m] < i) : insB x i = true := by
  unfold insB
  rw [List.all_eq_true]
  intro k hk
  obtain ⟨m, hm, rfl⟩ := List.getElem_of_mem hk
  simpa using h m hm
/-- The first input that isn't right, or none. -/
theorem ins_cases (x : TOp) (i : Nat) : (∀ m (hm : m < x.fIn.length), 0 ≤ x.fIn[m] ∧ x.fIn[m] < i) ∨
    ∃ m, ∃ hm : m < x.fIn.length, ¬ (0 ≤ x.fIn[m] ∧ x.fIn[m] < (i : Int)) ∧ ∀ k (hk : k < x.fIn.length), k < m → 0 ≤ x.fIn[k] ∧ x.fIn[k] < i := by
  suffices ∀ l : List Int, (∀ m (hm : m < l.length), 0 ≤ l[m] ∧ l[m] < (i : Int)) ∨ ∃ m, ∃ hm : m < l.length, ¬ (0 ≤ l[m] ∧ l[m] < (i : Int)) ∧ ∀ k (hk : k < l.length), k < m → 0 ≤ l[k] ∧ l[k] < (i : Int) from this x.fIn
  intro l
  induction l with
  | nil => left; intro m hm; simp at hm
  | cons a r ih =>
    by_cases ha : 0 ≤ a ∧ a < (i : Int)
    · rcases ih with h | ⟨m, hm, h1, h2⟩
      · left
        intro m hm
        cases m with
        | zero => exact ha
        | succ m => exact h m (by simpa using hm)
      · right
        refine ⟨m + 1, by simpa using hm, by simpa using h1, fun k hk hkm => ?_⟩
        cases k with
        | zero => exact ha
        | succ k => exact h2 k (by simpa using hk) (by omega)
    · right
      exact ⟨0, by simp, by simpa using ha, fun k hk hkm => by omega⟩
end Go.Proofs.YtjmbafcpbagpdaaGreat

/- Graph: within, inputs, right. -/
namespace Go.Proofs.YtjmbafcpbagpdaaGreat
open Go.RowKit

set_option maxHeartbeats 400000 in
theorem within_t (n lo hi : Int) (w : World) (h1 : lo ≤ n) (h2 : n ≤ hi) :
    Calls Tryz.prog 71 #[.int .i64 n, .int .i64 lo, .int .i64 hi] w fun e w' => e = .returned (.bool true) ∧ w' = w := by
  go_enter Tryz.func71, Tryz.ntmps71
  go_wp2
  go_ret
  exact ⟨rfl, rfl⟩

set_option maxHeartbeats 400000 in
theorem within_f (n lo hi : Int) (w : World) (h : n < lo ∨ hi < n) :
    Calls Tryz.prog 71 #[.int .i64 n, .int .i64 lo, .int .i64 hi] w fun e w' => e = .returned (.bool false) ∧ w' = w := by
  by_cases h1 : lo ≤ n
  · have h2 : hi < n := by omega
    clear h
    go_enter Tryz.func71, Tryz.ntmps71
    go_wp2
    go_ret
    exact ⟨by simp; omega, rfl⟩
  · clear h
    go_enter Tryz.func71, Tryz.ntmps71
    go_wp2
    go_ret
    exact ⟨rfl, rfl⟩

set_option maxHeartbeats 400000 in
theorem inputs_any (k : Int) (w : World) :
    Calls Tryz.prog 82 #[.int .i64 k] w fun e w' => e = .returned (.int .i64 (wantN k : Nat)) ∧ w' = w := by
  by_cases h1 : k = 1
  · subst h1
    go_enter Tryz.func82, Tryz.ntmps82
    go_wp2
    go_ret
    exact ⟨rfl, rfl⟩
  by_cases h2 : k = 5
  · subst h2
    go_enter Tryz.func82, Tryz.ntmps82
    go_wp2
    go_ret
    exact ⟨rfl, rfl⟩
  by_cases h3 : k = 6
  · subst h3
    go_enter Tryz.func82, Tryz.ntmps82
    go_wp2
    go_ret
    exact ⟨rfl, rfl⟩
  go_enter Tryz.func82, Tryz.ntmps82
  go_wp2
  go_ret
  exact ⟨by simp [wantN, h1, h2, h3], rfl⟩

set_option maxHeartbeats 1000000 in
theorem right_kind (kind arg num rounds test lim : Int) (i n len cap : Nat) (ao : Option Addr) (w : World) (hk : kind < 1 ∨ 8 < kind) :
    Calls Tryz.prog 72 #[.agg #[.int .i64 kind, .slice ao len cap, .int .i64 arg, .int .u32 num, .int .i64 rounds, .int .i64 test, .int .u32 lim], .int .i64 i, .int .i64 n] w fun e w' => e = .returned (.bool false) ∧ Below w.heap.size w w' := by
  go_enter Tryz.func72, Tryz.ntmps72
  go_wp2_with fail
  go_quiet ((go_at_call 71; exact Calls.quiet_of_same (within_f _ _ _ _ hk)))
  go_wp2
  go_ret
  exact ⟨rfl, below_drewN ((Below.refl _ _).alloc (Nat.le_refl _) _) _⟩

set_option maxHeartbeats 1000000 in
theorem right_sink (kind arg num rounds test lim : Int) (i n len cap : Nat) (ao : Option Addr) (w : World) (h1 : 1 ≤ kind) (h8 : kind ≤ 8) (_hi : i < n) (_hn : n ≤ 16) (hs : ¬ (i + 1 = n ↔ kind = 8)) :
    Calls Tryz.prog 72 #[.agg #[.int .i64 kind, .slice ao len cap, .int .i64 arg, .int .u32 num, .int .i64 rounds, .int .i64 test, .int .u32 lim], .int .i64 i, .int .i64 n] w fun e w' => e = .returned (.bool false) ∧ Below w.heap.size w w' := by
  by_cases hk : kind = 8
  · have e1 : (kind == 8) = true := by simpa using hk
    have e2 : ((i : Int) == (n : Int) - 1) = false := by simp; omega
    clear hs hk
    go_enter Tryz.func72, Tryz.ntmps72
    go_wp2_with fail
    go_quiet ((go_at_call 71; exact Calls.quiet_of_same (within_t _ _ _ _ h1 h8)))
    go_wp2
    go_ret
    exact ⟨rfl, below_drewN ((Below.refl _ _).alloc (Nat.le_refl _) _) _⟩
  · have e1 : (kind == 8) = false := by simpa using hk
    have e2 : ((i : Int) == (n : Int) - 1) = true := by simp; omega
    clear hs hk
    go_enter Tryz.func72, Tryz.ntmps72
    go_wp2_with fail
    go_quiet ((go_at_call 71; exact Calls.quiet_of_same (within_t _ _ _ _ h1 h8)))
    go_wp2
    go_ret
    exact ⟨rfl, below_drewN ((Below.refl _ _).alloc (Nat.le_refl _) _) _⟩

/-- The two Bools of the test on the sink. -/
theorem sink_bools {kind : Int} {i n : Nat} (hs : i + 1 = n ↔ kind = 8) : ∃ b, (kind == 8) = b ∧ ((i : Int) == (n : Int) - 1) = b := by
  by_cases hk : kind = 8
  · exact ⟨true, by simpa using hk, by have := hs.2 hk; simp; omega⟩
  · exact ⟨false, by simpa using hk, by have := fun h => hk (hs.1 h); simp; omega⟩

set_option maxHeartbeats 1000000 in
theorem right_len (kind arg num rounds test lim : Int) (i n len cap : Nat) (ao : Option Addr) (w : World) (h1 : 1 ≤ kind) (h8 : kind ≤ 8) (_hi : i < n) (_hn : n ≤ 16) (hs : i + 1 = n ↔ kind = 8) (hl : len ≠ wantN kind) :
    Calls Tryz.prog 72 #[.agg #[.int .i64 kind, .slice ao len cap, .int .i64 arg, .int .u32 num, .int .i64 rounds, .int .i64 test, .int .u32 lim], .int .i64 i, .int .i64 n] w fun e w' => e = .returned (.bool false) ∧ Below w.heap.size w w' := by
  have e3 : ((len : Int) != (wantN kind : Nat)) = true := by rw [bne_iff_ne]; omega
  obtain ⟨b, e1, e2⟩ := sink_bools hs
  clear hs hl
  cases b
  all_goals
    go_enter Tryz.func72, Tryz.ntmps72
    go_wp2_with fail
    go_quiet (first | (go_at_call 71; exact Calls.quiet_of_same (within_t _ _ _ _ h1 h8)) | (go_at_call 82; exact Calls.quiet_of_same (inputs_any _ _)))
    go_wp2
    go_ret
    exact ⟨rfl, below_drewN ((Below.refl _ _).alloc (Nat.le_refl _) _) _⟩

set_option maxHeartbeats 1000000 in
theorem right_ins (x : TOp) (i n cap : Nat) (ao : Option Addr) (w : World) (B : Nat) (hB : B ≤ w.heap.size) (hx : SlA B 1 (RI .i64) w ao cap x.fIn) (h1 : 1 ≤ x.fKind) (h8 : x.fKind ≤ 8) (_hi : i < n) (_hn : n ≤ 16) (hs : i + 1 = n ↔ x.fKind = 8)
    (hl : x.fIn.length = wantN x.fKind) (m : Nat) (hm : m < x.fIn.length) (hbad : ¬ (0 ≤ x.fIn[m] ∧ x.fIn[m] < i)) (hgood : ∀ k (hk : k < x.fIn.length), k < m → 0 ≤ x.fIn[k] ∧ x.fIn[k] < i) :
    Calls Tryz.prog 72 #[.agg #[.int .i64 x.fKind, .slice ao x.fIn.length cap, .int .i64 x.fArg, .int .u32 x.fNum, .int .i64 x.fRounds, .int .i64 x.fTest, .int .u32 x.fLim], .int .i64 i, .int .i64 n] w fun e w' => e = .returned (.bool false) ∧ Below w.heap.size w w' := by
  have hlen := hx.len
  obtain ⟨b, off, rfl, hb, hc⟩ := hx.addr (by omega)
  obtain ⟨len, hlen'⟩ : ∃ len, len = x.fIn.length := ⟨_, rfl⟩
  have e3 : ((len : Int) != (wantN x.fKind : Nat)) = false := by simp; omega
  have hcell : ∀ k (hk : k < x.fIn.length), w.cell? ⟨b, off + k, none⟩ = some (.int .i64 x.fIn[k]) := by
    intro k hk
    obtain ⟨cs, _, h3, h4, _⟩ := hc k hk
    have := h3 0 (by omega)
    rw [h4] at this
    simpa using this
  obtain ⟨bb, e1, e2⟩ := sink_bools hs
  have Hm := Lib.hid hlen'
  have hb2 : b < w.heap.size := by omega
  rw [← hlen'] at hlen ⊢
  clear hc hx hs hl hlen' hb hB
  cases bb
  all_goals
    go_enter Tryz.func72, Tryz.ntmps72
    go_wp2_with fail
    go_quiet (first | (go_at_call 71; exact Calls.quiet_of_same (within_t _ _ _ _ h1 h8)) | (go_at_call 82; exact Calls.quiet_of_same (inputs_any _ _)))
    go_wp2_with fail
    go_loop [38] (fun k => ∃ kk : Nat, kk ≤ m ∧ k = .int .i64 kk) (fun k => m + 1 - (intOf k).toNat)
    case atStart => exact ⟨0, by omega, rfl⟩
    case round =>
      obtain ⟨kk, hk, rfl⟩ := hrel
      have hkl : kk < len := by rw [Hm.out]; omega
      have hkx : kk < x.fIn.length := by omega
      have hck := hcell kk hkx
      by_cases hkm : kk = m
      · have hg : ¬ (0 ≤ x.fIn[kk] ∧ x.fIn[kk] < (i : Int)) := by subst hkm; exact hbad
        generalize x.fIn[kk] = v at hck hg
        clear hcell hgood hbad hkm
        go_wp2_with (go_at_call 71; refine (within_f _ _ _ _ (by omega)).mono ?_; rintro e w' ⟨rfl, rfl⟩)
        go_ret
        exact ⟨rfl, below_drewN ((Below.refl _ _).alloc (Nat.le_refl _) _) _⟩
      · have hg := hgood kk hkx (by omega)
        generalize x.fIn[kk] = v at hck hg
        obtain ⟨hg1, hg2⟩ := hg
        clear hcell hgood hbad
        go_wp2_with (go_at_call 71; refine (within_t _ _ _ _ (by omega) (by omega)).mono ?_; rintro e w' ⟨rfl, rfl⟩)
        go_round
        case rel => exact ⟨kk + 1, by omega, by go_num⟩
        case measure => simp [intOf]; omega
end Go.Proofs.YtjmbafcpbagpdaaGreat

/- Graph: right, where all its inputs are right: its form. One theorem a kind. -/
namespace Go.Proofs.YtjmbafcpbagpdaaGreat
open Go.RowKit
set_option linter.unusedVariables false

set_option maxHeartbeats 4000000 in
theorem right_tail1 (ins : List Int) (arg num rounds test lim : Int) (i n cap : Nat) (ao : Option Addr) (w : World) (B : Nat) (hB : B ≤ w.heap.size) (hx : SlA B 1 (RI .i64) w ao cap ins) (_hi : i < n) (_hn : n ≤ 16) (hs : i + 1 ≠ n)
    (hl : ins.length = 0) (hgood : ∀ k (hk : k < ins.length), 0 ≤ ins[k] ∧ ins[k] < i) :
    Calls Tryz.prog 72 #[.agg #[.int .i64 1, .slice ao ins.length cap, .int .i64 arg, .int .u32 num, .int .i64 rounds, .int .i64 test, .int .u32 lim], .int .i64 i, .int .i64 n] w fun e w' => e = .returned (.bool (formB ⟨1, ins, arg, num, rounds, test, lim⟩)) ∧ Below w.heap.size w w' := by
  have e2 : ((i : Int) == (n : Int) - 1) = false := by simp; omega
  have e3 : ((0 : Int) != (wantN 1 : Nat)) = false := by decide
  have Hl := Lib.hid hl
  rw [hl]
  clear hs hx hl
  go_enter Tryz.func72, Tryz.ntmps72
  go_wp2_with fail
  go_quiet (first | (go_at_call 71; exact Calls.quiet_of_same (within_t _ _ _ _ (by omega) (by omega))) | (go_at_call 82; exact Calls.quiet_of_same (inputs_any _ _)))
  go_wp2_with fail
  go_loop [38] (fun k => ∃ kk : Nat, kk ≤ 0 ∧ k = .int .i64 kk) (fun k => 0 - (intOf k).toNat)
  case atStart => exact ⟨0, by omega, rfl⟩
  case round =>
    obtain ⟨kk, hk, rfl⟩ := hrel
    by_cases hkl : kk < 0
    · omega
    · obtain rfl : kk = 0 := by omega
      clear hgood Hl
      go_wp2_with fail
      go_quiet (fail)
      go_wp2
      all_goals go_ret
      all_goals refine ⟨?_, below_drewN ((Below.refl _ _).alloc (Nat.le_refl _) _) _⟩
      all_goals (simp [formB]; first | omega | (rw [Bool.eq_iff_iff]; simp; omega))

set_option maxHeartbeats 4000000 in
theorem right_tail2 (ins : List Int) (arg num rounds test lim : Int) (i n cap : Nat) (ao : Option Addr) (w : World) (B : Nat) (hB : B ≤ w.heap.size) (hx : SlA B 1 (RI .i64) w ao cap ins) (_hi : i < n) (_hn : n ≤ 16) (hs : i + 1 ≠ n)
    (hl : ins.length = 1) (hgood : ∀ k (hk : k < ins.length), 0 ≤ ins[k] ∧ ins[k] < i) :
    Calls Tryz.prog 72 #[.agg #[.int .i64 2, .slice ao ins.length cap, .int .i64 arg, .int .u32 num, .int .i64 rounds, .int .i64 test, .int .u32 lim], .int .i64 i, .int .i64 n] w fun e w' => e = .returned (.bool (formB ⟨2, ins, arg, num, rounds, test, lim⟩)) ∧ Below w.heap.size w w' := by
  have e2 : ((i : Int) == (n : Int) - 1) = false := by simp; omega
  obtain ⟨b, off, rfl, hb, hc⟩ := hx.addr (by omega)
  have hb2 : b < w.heap.size := by omega
  have hcell : ∀ k (hk : k < ins.length), w.cell? ⟨b, off + k, none⟩ = some (.int .i64 ins[k]) := by
    intro k hk
    obtain ⟨cs, _, h3, h4, _⟩ := hc k hk
    have := h3 0 (by omega)
    rw [h4] at this
    simpa using this
  clear hc hb hB
  have e3 : ((1 : Int) != (wantN 2 : Nat)) = false := by decide
  have Hl := Lib.hid hl
  rw [hl]
  clear hs hx hl
  go_enter Tryz.func72, Tryz.ntmps72
  go_wp2_with fail
  go_quiet (first | (go_at_call 71; exact Calls.quiet_of_same (within_t _ _ _ _ (by omega) (by omega))) | (go_at_call 82; exact Calls.quiet_of_same (inputs_any _ _)))
  go_wp2_with fail
  go_loop [38] (fun k => ∃ kk : Nat, kk ≤ 1 ∧ k = .int .i64 kk) (fun k => 1 - (intOf k).toNat)
  case atStart => exact ⟨0, by omega, rfl⟩
  case round =>
    obtain ⟨kk, hk, rfl⟩ := hrel
    by_cases hkl : kk < 1
    · obtain rfl : kk = 0 := by omega
      clear hkl hk
      have hkx : 0 < ins.length := by rw [Hl.out]; omega
      have hck := hcell 0 hkx
      rw [Nat.add_zero] at hck
      have hg := hgood 0 hkx
      generalize ins[0] = v at hck hg
      obtain ⟨hg1, hg2⟩ := hg
      clear hcell hgood
      go_wp2_with (go_at_call 71; refine (within_t _ _ _ _ (by omega) (by omega)).mono ?_; rintro e w' ⟨rfl, rfl⟩)
      go_round
      case rel => exact ⟨1, by omega, rfl⟩
      case measure => (simp [intOf]; try omega)
    · obtain rfl : kk = 1 := by omega
      clear hgood hcell Hl
      go_wp2_with fail
      go_quiet (fail)
      go_wp2
      all_goals go_ret
      all_goals refine ⟨?_, below_drewN ((Below.refl _ _).alloc (Nat.le_refl _) _) _⟩
      all_goals (simp [formB]; first | omega | (rw [Bool.eq_iff_iff]; simp; omega))

set_option maxHeartbeats 4000000 in
theorem right_tail3 (ins : List Int) (arg num rounds test lim : Int) (i n cap : Nat) (ao : Option Addr) (w : World) (B : Nat) (hB : B ≤ w.heap.size) (hx : SlA B 1 (RI .i64) w ao cap ins) (_hi : i < n) (_hn : n ≤ 16) (hs : i + 1 ≠ n)
    (hl : ins.length = 1) (hgood : ∀ k (hk : k < ins.length), 0 ≤ ins[k] ∧ ins[k] < i) :
    Calls Tryz.prog 72 #[.agg #[.int .i64 3, .slice ao ins.length cap, .int .i64 arg, .int .u32 num, .int .i64 rounds, .int .i64 test, .int .u32 lim], .int .i64 i, .int .i64 n] w fun e w' => e = .returned (.bool (formB ⟨3, ins, arg, num, rounds, test, lim⟩)) ∧ Below w.heap.size w w' := by
  have e2 : ((i : Int) == (n : Int) - 1) = false := by simp; omega
  obtain ⟨b, off, rfl, hb, hc⟩ := hx.addr (by omega)
  have hb2 : b < w.heap.size := by omega
  have hcell : ∀ k (hk : k < ins.length), w.cell? ⟨b, off + k, none⟩ = some (.int .i64 ins[k]) := by
    intro k hk
    obtain ⟨cs, _, h3, h4, _⟩ := hc k hk
    have := h3 0 (by omega)
    rw [h4] at this
    simpa using this
  clear hc hb hB
  have e3 : ((1 : Int) != (wantN 3 : Nat)) = false := by decide
  have Hl := Lib.hid hl
  rw [hl]
  clear hs hx hl
  go_enter Tryz.func72, Tryz.ntmps72
  go_wp2_with fail
  go_quiet (first | (go_at_call 71; exact Calls.quiet_of_same (within_t _ _ _ _ (by omega) (by omega))) | (go_at_call 82; exact Calls.quiet_of_same (inputs_any _ _)))
  go_wp2_with fail
  go_loop [38] (fun k => ∃ kk : Nat, kk ≤ 1 ∧ k = .int .i64 kk) (fun k => 1 - (intOf k).toNat)
  case atStart => exact ⟨0, by omega, rfl⟩
  case round =>
    obtain ⟨kk, hk, rfl⟩ := hrel
    by_cases hkl : kk < 1
    · obtain rfl : kk = 0 := by omega
      clear hkl hk
      have hkx : 0 < ins.length := by rw [Hl.out]; omega
      have hck := hcell 0 hkx
      rw [Nat.add_zero] at hck
      have hg := hgood 0 hkx
      generalize ins[0] = v at hck hg
      obtain ⟨hg1, hg2⟩ := hg
      clear hcell hgood
      go_wp2_with (go_at_call 71; refine (within_t _ _ _ _ (by omega) (by omega)).mono ?_; rintro e w' ⟨rfl, rfl⟩)
      go_round
      case rel => exact ⟨1, by omega, rfl⟩
      case measure => (simp [intOf]; try omega)
    · obtain rfl : kk = 1 := by omega
      clear hgood hcell Hl
      go_wp2_with fail
      go_quiet (fail)
      go_wp2
      all_goals go_ret
      all_goals refine ⟨?_, below_drewN ((Below.refl _ _).alloc (Nat.le_refl _) _) _⟩
      all_goals (simp [formB]; first | omega | (rw [Bool.eq_iff_iff]; simp; omega))

set_option maxHeartbeats 4000000 in
theorem right_tail4 (ins : List Int) (arg num rounds test lim : Int) (i n cap : Nat) (ao : Option Addr) (w : World) (B : Nat) (hB : B ≤ w.heap.size) (hx : SlA B 1 (RI .i64) w ao cap ins) (_hi : i < n) (_hn : n ≤ 16) (hs : i + 1 ≠ n)
    (hl : ins.length = 1) (hgood : ∀ k (hk : k < ins.length), 0 ≤ ins[k] ∧ ins[k] < i) :
    Calls Tryz.prog 72 #[.agg #[.int .i64 4, .slice ao ins.length cap, .int .i64 arg, .int .u32 num, .int .i64 rounds, .int .i64 test, .int .u32 lim], .int .i64 i, .int .i64 n] w fun e w' => e = .returned (.bool (formB ⟨4, ins, arg, num, rounds, test, lim⟩)) ∧ Below w.heap.size w w' := by
  have e2 : ((i : Int) == (n : Int) - 1) = false := by simp; omega
  obtain ⟨b, off, rfl, hb, hc⟩ := hx.addr (by omega)
  have hb2 : b < w.heap.size := by omega
  have hcell : ∀ k (hk : k < ins.length), w.cell? ⟨b, off + k, none⟩ = some (.int .i64 ins[k]) := by
    intro k hk
    obtain ⟨cs, _, h3, h4, _⟩ := hc k hk
    have := h3 0 (by omega)
    rw [h4] at this
    simpa using this
  clear hc hb hB
  have e3 : ((1 : Int) != (wantN 4 : Nat)) = false := by decide
  have Hl := Lib.hid hl
  rw [hl]
  clear hs hx hl
  go_enter Tryz.func72, Tryz.ntmps72
  go_wp2_with fail
  go_quiet (first | (go_at_call 71; exact Calls.quiet_of_same (within_t _ _ _ _ (by omega) (by omega))) | (go_at_call 82; exact Calls.quiet_of_same (inputs_any _ _)))
  go_wp2_with fail
  go_loop [38] (fun k => ∃ kk : Nat, kk ≤ 1 ∧ k = .int .i64 kk) (fun k => 1 - (intOf k).toNat)
  case atStart => exact ⟨0, by omega, rfl⟩
  case round =>
    obtain ⟨kk, hk, rfl⟩ := hrel
    by_cases hkl : kk < 1
    · obtain rfl : kk = 0 := by omega
      clear hkl hk
      have hkx : 0 < ins.length := by rw [Hl.out]; omega
      have hck := hcell 0 hkx
      rw [Nat.add_zero] at hck
      have hg := hgood 0 hkx
      generalize ins[0] = v at hck hg
      obtain ⟨hg1, hg2⟩ := hg
      clear hcell hgood
      go_wp2_with (go_at_call 71; refine (within_t _ _ _ _ (by omega) (by omega)).mono ?_; rintro e w' ⟨rfl, rfl⟩)
      go_round
      case rel => exact ⟨1, by omega, rfl⟩
      case measure => (simp [intOf]; try omega)
    · obtain rfl : kk = 1 := by omega
      clear hgood hcell Hl
      go_wp2_with fail
      go_quiet (fail)
      go_wp2
      all_goals go_ret
      all_goals refine ⟨?_, below_drewN ((Below.refl _ _).alloc (Nat.le_refl _) _) _⟩
      all_goals (simp [formB]; first | omega | (rw [Bool.eq_iff_iff]; simp; omega))

set_option maxHeartbeats 4000000 in
theorem right_tail5 (ins : List Int) (arg num rounds test lim : Int) (i n cap : Nat) (ao : Option Addr) (w : World) (B : Nat) (hB : B ≤ w.heap.size) (hx : SlA B 1 (RI .i64) w ao cap ins) (_hi : i < n) (_hn : n ≤ 16) (hs : i + 1 ≠ n)
    (hl : ins.length = 2) (hgood : ∀ k (hk : k < ins.length), 0 ≤ ins[k] ∧ ins[k] < i) :
    Calls Tryz.prog 72 #[.agg #[.int .i64 5, .slice ao ins.length cap, .int .i64 arg, .int .u32 num, .int .i64 rounds, .int .i64 test, .int .u32 lim], .int .i64 i, .int .i64 n] w fun e w' => e = .returned (.bool (formB ⟨5, ins, arg, num, rounds, test, lim⟩)) ∧ Below w.heap.size w w' := by
  have e2 : ((i : Int) == (n : Int) - 1) = false := by simp; omega
  obtain ⟨b, off, rfl, hb, hc⟩ := hx.addr (by omega)
  have hb2 : b < w.heap.size := by omega
  have hcell : ∀ k (hk : k < ins.length), w.cell? ⟨b, off + k, none⟩ = some (.int .i64 ins[k]) := by
    intro k hk
    obtain ⟨cs, _, h3, h4, _⟩ := hc k hk
    have := h3 0 (by omega)
    rw [h4] at this
    simpa using this
  clear hc hb hB
  have e3 : ((2 : Int) != (wantN 5 : Nat)) = false := by decide
  have Hl := Lib.hid hl
  rw [hl]
  clear hs hx hl
  go_enter Tryz.func72, Tryz.ntmps72
  go_wp2_with fail
  go_quiet (first | (go_at_call 71; exact Calls.quiet_of_same (within_t _ _ _ _ (by omega) (by omega))) | (go_at_call 82; exact Calls.quiet_of_same (inputs_any _ _)))
  go_wp2_with fail
  go_loop [38] (fun k => ∃ kk : Nat, kk ≤ 2 ∧ k = .int .i64 kk) (fun k => 2 - (intOf k).toNat)
  case atStart => exact ⟨0, by omega, rfl⟩
  case round =>
    obtain ⟨kk, hk, rfl⟩ := hrel
    by_cases hkl : kk < 2
    · have hkx : kk < ins.length := by rw [Hl.out]; exact hkl
      have hck := hcell kk hkx
      have hg := hgood kk hkx
      generalize ins[kk] = v at hck hg
      obtain ⟨hg1, hg2⟩ := hg
      clear hcell hgood
      go_wp2_with (go_at_call 71; refine (within_t _ _ _ _ (by omega) (by omega)).mono ?_; rintro e w' ⟨rfl, rfl⟩)
      go_round
      case rel => exact ⟨kk + 1, by omega, by go_num⟩
      case measure => (simp [intOf]; try omega)
    · obtain rfl : kk = 2 := by omega
      clear hgood hcell Hl
      go_wp2_with fail
      go_quiet (fail)
      go_wp2
      all_goals go_ret
      all_goals refine ⟨?_, below_drewN ((Below.refl _ _).alloc (Nat.le_refl _) _) _⟩
      all_goals (simp [formB]; first | omega | (rw [Bool.eq_iff_iff]; simp; omega))

set_option maxHeartbeats 4000000 in
theorem right_tail6 (ins : List Int) (arg num rounds test lim : Int) (i n cap : Nat) (ao : Option Addr) (w : World) (B : Nat) (hB : B ≤ w.heap.size) (hx : SlA B 1 (RI .i64) w ao cap ins) (_hi : i < n) (_hn : n ≤ 16) (hs : i + 1 ≠ n)
    (hl : ins.length = 2) (hgood : ∀ k (hk : k < ins.length), 0 ≤ ins[k] ∧ ins[k] < i) :
    Calls Tryz.prog 72 #[.agg #[.int .i64 6, .slice ao ins.length cap, .int .i64 arg, .int .u32 num, .int .i64 rounds, .int .i64 test, .int .u32 lim], .int .i64 i, .int .i64 n] w fun e w' => e = .returned (.bool (formB ⟨6, ins, arg, num, rounds, test, lim⟩)) ∧ Below w.heap.size w w' := by
  have e2 : ((i : Int) == (n : Int) - 1) = false := by simp; omega
  obtain ⟨b, off, rfl, hb, hc⟩ := hx.addr (by omega)
  have hb2 : b < w.heap.size := by omega
  have hcell : ∀ k (hk : k < ins.length), w.cell? ⟨b, off + k, none⟩ = some (.int .i64 ins[k]) := by
    intro k hk
    obtain ⟨cs, _, h3, h4, _⟩ := hc k hk
    have := h3 0 (by omega)
    rw [h4] at this
    simpa using this
  clear hc hb hB
  have e3 : ((2 : Int) != (wantN 6 : Nat)) = false := by decide
  have Hl := Lib.hid hl
  rw [hl]
  clear hs hx hl
  go_enter Tryz.func72, Tryz.ntmps72
  go_wp2_with fail
  go_quiet (first | (go_at_call 71; exact Calls.quiet_of_same (within_t _ _ _ _ (by omega) (by omega))) | (go_at_call 82; exact Calls.quiet_of_same (inputs_any _ _)))
  go_wp2_with fail
  go_loop [38] (fun k => ∃ kk : Nat, kk ≤ 2 ∧ k = .int .i64 kk) (fun k => 2 - (intOf k).toNat)
  case atStart => exact ⟨0, by omega, rfl⟩
  case round =>
    obtain ⟨kk, hk, rfl⟩ := hrel
    by_cases hkl : kk < 2
    · have hkx : kk < ins.length := by rw [Hl.out]; exact hkl
      have hck := hcell kk hkx
      have hg := hgood kk hkx
      generalize ins[kk] = v at hck hg
      obtain ⟨hg1, hg2⟩ := hg
      clear hcell hgood
      go_wp2_with (go_at_call 71; refine (within_t _ _ _ _ (by omega) (by omega)).mono ?_; rintro e w' ⟨rfl, rfl⟩)
      go_round
      case rel => exact ⟨kk + 1, by omega, by go_num⟩
      case measure => (simp [intOf]; try omega)
    · obtain rfl : kk = 2 := by omega
      clear hgood hcell Hl
      go_wp2_with fail
      go_quiet (fail)
      go_wp2
      all_goals go_ret
      all_goals refine ⟨?_, below_drewN ((Below.refl _ _).alloc (Nat.le_refl _) _) _⟩
      all_goals (simp [formB]; first | omega | (rw [Bool.eq_iff_iff]; simp; omega))

set_option maxHeartbeats 4000000 in
theorem right_tail7 (ins : List Int) (arg num rounds test lim : Int) (i n cap : Nat) (ao : Option Addr) (w : World) (B : Nat) (hB : B ≤ w.heap.size) (hx : SlA B 1 (RI .i64) w ao cap ins) (_hi : i < n) (_hn : n ≤ 16) (hs : i + 1 ≠ n)
    (hl : ins.length = 1) (hgood : ∀ k (hk : k < ins.length), 0 ≤ ins[k] ∧ ins[k] < i) :
    Calls Tryz.prog 72 #[.agg #[.int .i64 7, .slice ao ins.length cap, .int .i64 arg, .int .u32 num, .int .i64 rounds, .int .i64 test, .int .u32 lim], .int .i64 i, .int .i64 n] w fun e w' => e = .returned (.bool (formB ⟨7, ins, arg, num, rounds, test, lim⟩)) ∧ Below w.heap.size w w' := by
  have e2 : ((i : Int) == (n : Int) - 1) = false := by simp; omega
  obtain ⟨b, off, rfl, hb, hc⟩ := hx.addr (by omega)
  have hb2 : b < w.heap.size := by omega
  have hcell : ∀ k (hk : k < ins.length), w.cell? ⟨b, off + k, none⟩ = some (.int .i64 ins[k]) := by
    intro k hk
    obtain ⟨cs, _, h3, h4, _⟩ := hc k hk
    have := h3 0 (by omega)
    rw [h4] at this
    simpa using this
  clear hc hb hB
  have e3 : ((1 : Int) != (wantN 7 : Nat)) = false := by decide
  have Hl := Lib.hid hl
  rw [hl]
  clear hs hx hl
  go_enter Tryz.func72, Tryz.ntmps72
  go_wp2_with fail
  go_quiet (first | (go_at_call 71; exact Calls.quiet_of_same (within_t _ _ _ _ (by omega) (by omega))) | (go_at_call 82; exact Calls.quiet_of_same (inputs_any _ _)))
  go_wp2_with fail
  go_loop [38] (fun k => ∃ kk : Nat, kk ≤ 1 ∧ k = .int .i64 kk) (fun k => 1 - (intOf k).toNat)
  case atStart => exact ⟨0, by omega, rfl⟩
  case round =>
    obtain ⟨kk, hk, rfl⟩ := hrel
    by_cases hkl : kk < 1
    · obtain rfl : kk = 0 := by omega
      clear hkl hk
      have hkx : 0 < ins.length := by rw [Hl.out]; omega
      have hck := hcell 0 hkx
      rw [Nat.add_zero] at hck
      have hg := hgood 0 hkx
      generalize ins[0] = v at hck hg
      obtain ⟨hg1, hg2⟩ := hg
      clear hcell hgood
      go_wp2_with (go_at_call 71; refine (within_t _ _ _ _ (by omega) (by omega)).mono ?_; rintro e w' ⟨rfl, rfl⟩)
      go_round
      case rel => exact ⟨1, by omega, rfl⟩
      case measure => (simp [intOf]; try omega)
    · obtain rfl : kk = 1 := by omega
      clear hgood hcell Hl
      go_wp2_with fail
      go_quiet (fail)
      go_wp2
      all_goals go_ret
      all_goals refine ⟨?_, below_drewN ((Below.refl _ _).alloc (Nat.le_refl _) _) _⟩
      all_goals (simp [formB]; first | omega | (rw [Bool.eq_iff_iff]; simp; omega))

set_option maxHeartbeats 4000000 in
theorem right_tail8 (ins : List Int) (arg num rounds test lim : Int) (i n cap : Nat) (ao : Option Addr) (w : World) (B : Nat) (hB : B ≤ w.heap.size) (hx : SlA B 1 (RI .i64) w ao cap ins) (_hi : i < n) (_hn : n ≤ 16) (hs : i + 1 = n)
    (hl : ins.length = 1) (hgood : ∀ k (hk : k < ins.length), 0 ≤ ins[k] ∧ ins[k] < i) :
    Calls Tryz.prog 72 #[.agg #[.int .i64 8, .slice ao ins.length cap, .int .i64 arg, .int .u32 num, .int .i64 rounds, .int .i64 test, .int .u32 lim], .int .i64 i, .int .i64 n] w fun e w' => e = .returned (.bool (formB ⟨8, ins, arg, num, rounds, test, lim⟩)) ∧ Below w.heap.size w w' := by
  have e2 : ((i : Int) == (n : Int) - 1) = true := by simp; omega
  obtain ⟨b, off, rfl, hb, hc⟩ := hx.addr (by omega)
  have hb2 : b < w.heap.size := by omega
  have hcell : ∀ k (hk : k < ins.length), w.cell? ⟨b, off + k, none⟩ = some (.int .i64 ins[k]) := by
    intro k hk
    obtain ⟨cs, _, h3, h4, _⟩ := hc k hk
    have := h3 0 (by omega)
    rw [h4] at this
    simpa using this
  clear hc hb hB
  have e3 : ((1 : Int) != (wantN 8 : Nat)) = false := by decide
  have Hl := Lib.hid hl
  rw [hl]
  clear hs hx hl
  go_enter Tryz.func72, Tryz.ntmps72
  go_wp2_with fail
  go_quiet (first | (go_at_call 71; exact Calls.quiet_of_same (within_t _ _ _ _ (by omega) (by omega))) | (go_at_call 82; exact Calls.quiet_of_same (inputs_any _ _)))
  go_wp2_with fail
  go_loop [38] (fun k => ∃ kk : Nat, kk ≤ 1 ∧ k = .int .i64 kk) (fun k => 1 - (intOf k).toNat)
  case atStart => exact ⟨0, by omega, rfl⟩
  case round =>
    obtain ⟨kk, hk, rfl⟩ := hrel
    by_cases hkl : kk < 1
    · obtain rfl : kk = 0 := by omega
      clear hkl hk
      have hkx : 0 < ins.length := by rw [Hl.out]; omega
      have hck := hcell 0 hkx
      rw [Nat.add_zero] at hck
      have hg := hgood 0 hkx
      generalize ins[0] = v at hck hg
      obtain ⟨hg1, hg2⟩ := hg
      clear hcell hgood
      go_wp2_with (go_at_call 71; refine (within_t _ _ _ _ (by omega) (by omega)).mono ?_; rintro e w' ⟨rfl, rfl⟩)
      go_round
      case rel => exact ⟨1, by omega, rfl⟩
      case measure => (simp [intOf]; try omega)
    · obtain rfl : kk = 1 := by omega
      clear hgood hcell Hl
      go_wp2_with fail
      go_quiet (fail)
      go_wp2
      all_goals go_ret
      all_goals refine ⟨?_, below_drewN ((Below.refl _ _).alloc (Nat.le_refl _) _) _⟩
      all_goals (simp [formB]; first | omega | (rw [Bool.eq_iff_iff]; simp; omega))
end Go.Proofs.YtjmbafcpbagpdaaGreat

/- Graph: right and Check, whole. -/
namespace Go.Proofs.YtjmbafcpbagpdaaGreat
open Go.RowKit

theorem right_any (x : TOp) (i n cap : Nat) (ao : Option Addr) (w : World) (B : Nat) (hB : B ≤ w.heap.size) (hx : SlA B 1 (RI .i64) w ao cap x.fIn) (hi : i < n) (hn : n ≤ 16) :
    Calls Tryz.prog 72 #[.agg #[.int .i64 x.fKind, .slice ao x.fIn.length cap, .int .i64 x.fArg, .int .u32 x.fNum, .int .i64 x.fRounds, .int .i64 x.fTest, .int .u32 x.fLim], .int .i64 i, .int .i64 n] w fun e w' => e = .returned (.bool (okB x i n)) ∧ Below w.heap.size w w' := by
  by_cases hk : x.fKind < 1 ∨ 8 < x.fKind
  · have : okB x i n = false := by
      have hf : formB x = false := by
        unfold formB
        rw [if_neg (by omega), if_neg (by omega), if_neg (by omega), if_neg (by omega), if_neg (by omega), if_neg (by omega)]
      simp [okB, hf]
    rw [this]
    exact right_kind _ _ _ _ _ _ i n _ cap ao w hk
  by_cases hs : i + 1 = n ↔ x.fKind = 8
  · by_cases hl : x.fIn.length = wantN x.fKind
    · rcases ins_cases x i with hg | ⟨m, hm, hbad, hgood⟩
      · have : okB x i n = formB x := by simp [okB, hl, insB_true hg, hs]
        rw [this]
        obtain ⟨kind, ins, arg, num, rounds, test, lim⟩ := x
        simp only at hk hs hl hg hx ⊢
        have hcase : kind = 1 ∨ kind = 2 ∨ kind = 3 ∨ kind = 4 ∨ kind = 5 ∨ kind = 6 ∨ kind = 7 ∨ kind = 8 := by omega
        rcases hcase with rfl | rfl | rfl | rfl | rfl | rfl | rfl | rfl
        · exact right_tail1 ins arg num rounds test lim i n cap ao w B hB hx hi hn (by omega) (by simpa [wantN] using hl) hg
        · exact right_tail2 ins arg num rounds test lim i n cap ao w B hB hx hi hn (by omega) (by simpa [wantN] using hl) hg
        · exact right_tail3 ins arg num rounds test lim i n cap ao w B hB hx hi hn (by omega) (by simpa [wantN] using hl) hg
        · exact right_tail4 ins arg num rounds test lim i n cap ao w B hB hx hi hn (by omega) (by simpa [wantN] using hl) hg
        · exact right_tail5 ins arg num rounds test lim i n cap ao w B hB hx hi hn (by omega) (by simpa [wantN] using hl) hg
        · exact right_tail6 ins arg num rounds test lim i n cap ao w B hB hx hi hn (by omega) (by simpa [wantN] using hl) hg
        · exact right_tail7 ins arg num rounds test lim i n cap ao w B hB hx hi hn (by omega) (by simpa [wantN] using hl) hg
        · exact right_tail8 ins arg num rounds test lim i n cap ao w B hB hx hi hn (by omega) (by simpa [wantN] using hl) hg
      · have : okB x i n = false := by simp [okB, insB_false hm hbad]
        rw [this]
        exact right_ins x i n cap ao w B hB hx (by omega) (by omega) hi hn hs hl m hm hbad hgood
    · have : okB x i n = false := by simp [okB, hl]
      rw [this]
      exact right_len _ _ _ _ _ _ i n _ cap ao w (by omega) (by omega) hi hn hs hl
  · have : okB x i n = false := by simp [okB, hs]
    rw [this]
    exact right_sink _ _ _ _ _ _ i n _ cap ao w (by omega) (by omega) hi hn hs

/-- The first operator that isn't right, or none. -/
theorem ops_cases (ops : List TOp) : (∀ k (h : k < ops.length), okB ops[k] k ops.length = true) ∨
    ∃ m, ∃ hm : m < ops.length, okB ops[m] m ops.length = false ∧ ∀ k (h : k < ops.length), k < m → okB ops[k] k ops.length = true := by
  suffices ∀ d, d ≤ ops.length → (∀ k (h : k < ops.length), k < d → okB ops[k] k ops.length = true) ∨ ∃ m, ∃ hm : m < ops.length, okB ops[m] m ops.length = false ∧ ∀ k (h : k < ops.length), k < m → okB ops[k] k ops.length = true by
    rcases this ops.length (Nat.le_refl _) with h | h
    · exact .inl fun k hk => h k hk hk
    · exact .inr h
  intro d
  induction d with
  | zero => intro _; left; intro k _ h; omega
  | succ d ih =>
    intro hd
    rcases ih (by omega) with h | h
    · cases hb : okB ops[d] d ops.length with
      | false => exact .inr ⟨d, by omega, hb, h⟩
      | true =>
        left
        intro k hk hkd
        by_cases hkd' : k = d
        · subst hkd'; exact hb
        · exact h k hk (by omega)
    · exact .inr h

set_option maxHeartbeats 1000000 in
theorem gcheck_long (n cap : Nat) (ao : Option Addr) (w : World) (h : n < 1 ∨ 16 < n) (_hm : n ≤ 9223372036854775807) :
    Calls Tryz.prog 53 #[.agg #[.slice ao n cap]] w fun e w' => e = .returned (.tuple #[.int .i64 0, .int .i64 2]) ∧ Below w.heap.size w w' := by
  go_enter Tryz.func53, Tryz.ntmps53
  go_wp2_with (go_at_call 71; refine (within_f _ _ _ _ (by omega)).mono ?_; rintro e w' ⟨rfl, rfl⟩)
  go_ret2
  exact ⟨rfl, ((Below.refl _ _).alloc (Nat.le_refl _) _)⟩


/-- One round of Check's loop is alike in both ways: what it needs of the operator. -/
theorem imp_in {B : Nat} {w w' : World} {ao : Option Addr} {cap : Nat} {xs : List Int} (h : SlA B 1 (RI .i64) w ao cap xs) (hb : Below B w w') : SlA B 1 (RI .i64) w' ao cap xs := h.imp hb (Nat.le_refl _) (fun _ _ _ h => h)
theorem imp_ops {B : Nat} {w w' : World} {ao : Option Addr} {cap : Nat} {xs : List TOp} (h : SlA B 7 (ROp B) w ao cap xs) (hb : Below B w w') : SlA B 7 (ROp B) w' ao cap xs := h.imp hb (Nat.le_refl _) (fun _ _ _ h => h.imp hb (Nat.le_refl _))

set_option maxHeartbeats 2000000 in
theorem gcheck_any (ops : List TOp) (cap : Nat) (ao : Option Addr) (w : World) (B : Nat) (hB : B ≤ w.heap.size) (hx : SlA B 7 (ROp B) w ao cap ops) (h1 : 1 ≤ ops.length) (h2 : ops.length ≤ 16)
    (m : Nat) (hm : m ≤ ops.length) (hbad : ∀ h : m < ops.length, okB ops[m] m ops.length = false) (hgood : ∀ k (h : k < ops.length), k < m → okB ops[k] k ops.length = true) :
    Calls Tryz.prog 53 #[.agg #[.slice ao ops.length cap]] w fun e w' => e = .returned (if m < ops.length then .tuple #[.int .i64 m, .int .i64 13] else .tuple #[.int .i64 0, .int .i64 0]) ∧ Below w.heap.size w w' := by
  obtain ⟨b, off, rfl, hb, _⟩ := hx.addr (by omega)
  obtain ⟨len, hlen'⟩ : ∃ len, len = ops.length := ⟨_, rfl⟩
  have Hm := Lib.hid hlen'
  have hb2 : b < w.heap.size := by omega
  rw [← hlen'] at h1 h2 ⊢
  clear hlen'
  go_enter Tryz.func53, Tryz.ntmps53
  go_wp2_with (go_at_call 71; refine (within_t _ _ _ _ (by omega) (by omega)).mono ?_; rintro e w' ⟨rfl, rfl⟩)
  go_loopw [14] (fun k wr => ∃ kk : Nat, kk ≤ m ∧ k = .int .i64 kk ∧ wr.cell? ⟨w.heap.size, 0, none⟩ = some (.slice (some ⟨b, off, none⟩) len cap) ∧ w.heap.size < wr.heap.size ∧ Below w.heap.size w wr) (fun k _ => m + 1 - (intOf k).toNat)
  case atStart => exact ⟨0, by omega, rfl, by simp, by simp, (Below.refl _ _).alloc (Nat.le_refl _) _⟩
  case round =>
    obtain ⟨kk, hk, rfl, hc0, hsz, hbel⟩ := hrel
    by_cases hkl : kk < len
    · have hkx : kk < ops.length := by rw [← Hm.out]; exact hkl
      obtain ⟨x, hxx⟩ : ∃ x, ops[kk] = x := ⟨_, rfl⟩
      obtain ⟨ao1, cap1, e0, e1, e2, e3, e4, e5, e6, _, hin, _⟩ := ROp.at (imp_ops hx (hbel.mono hB)) hkx hxx
      replace hxx := Lib.hid hxx
      have hb3 : b < wr.heap.size := by omega
      go_wp2_with fail
      refine (right_any x kk len cap1 ao1 _ B ?_ (imp_in hin ?_) hkl h2).mono ?_
      · simp; omega
      · exact (Below.refl _ _).alloc (by omega) _
      by_cases hkm : kk = m
      · have hok : okB x kk len = false := by
          rw [← hxx.out, Hm.out]
          subst hkm
          exact hbad hkx
        rw [hok]
        rintro e w5 ⟨rfl, hb5⟩
        have hbw := hbel.trans (((Below.refl w.heap.size wr).alloc (by omega) _).trans (hb5.mono (by simp; omega)))
        go_wp2_with fail
        go_ret2
        subst hkm
        exact ⟨rfl, hbw⟩
      · have hok : okB x kk len = true := by
          rw [← hxx.out, Hm.out]
          exact hgood kk hkx (by omega)
        rw [hok]
        rintro e w5 ⟨rfl, hb5⟩
        have hbw := hbel.trans (((Below.refl w.heap.size wr).alloc (by omega) _).trans (hb5.mono (by simp; omega)))
        have hc5 : w5.cell? ⟨w.heap.size, 0, none⟩ = some (.slice (some ⟨b, off, none⟩) len cap) := by
          rw [hb5.cell (p := ⟨w.heap.size, 0, none⟩) (by simp; omega), World.cell?_alloc_lt _ _ _ hsz]
          exact hc0
        have hs5 : w.heap.size < w5.heap.size := by have := hb5.size; simp at this; omega
        go_wp2_with fail
        go_roundw
        case rel => exact ⟨kk + 1, by omega, by go_num, hc5, hs5, hbw⟩
        case measure => simp [intOf]; omega
    · obtain rfl : kk = m := by have := Hm.out; omega
      go_wp2_with fail
      go_ret2
      exact ⟨rfl, hbel⟩

theorem gcheck_all (ops : List TOp) (cap : Nat) (ao : Option Addr) (w : World) (B : Nat) (hB : B ≤ w.heap.size) (hx : SlA B 7 (ROp B) w ao cap ops) :
    Calls Tryz.prog 53 #[.agg #[.slice ao ops.length cap]] w fun e w' => e = .returned (.tuple #[.int .i64 (gcheck ops).1, .int .i64 (gcheck ops).2]) ∧ Below w.heap.size w w' := by
  unfold gcheck
  by_cases hl : ops.length < 1 ∨ 16 < ops.length
  · rw [if_pos hl]
    exact gcheck_long _ cap ao w hl hx.len
  rw [if_neg hl]
  rcases ops_cases ops with h | ⟨m, hm, hbad, hgood⟩
  · rw [badFrom_none h]
    have := gcheck_any ops cap ao w B hB hx (by omega) (by omega) ops.length (Nat.le_refl _) (fun h => by omega) (fun k hk _ => h k hk)
    simpa using this
  · rw [badFrom_hit hm hbad hgood]
    have := gcheck_any ops cap ao w B hB hx (by omega) (by omega) m (by omega) (fun _ => hbad) hgood
    simpa [hm] using this
end Go.Proofs.YtjmbafcpbagpdaaGreat

/- Graph: the reference's zero, form, want, Check. -/
namespace Go.Proofs.YtjmbafcpbagpdaaGreat
open Go.RowKit
set_option linter.unusedVariables false

def zB (num rounds test lim : Int) : Bool := decide (num = 0 ∧ rounds = 0 ∧ test = 0 ∧ lim = 0)

set_option maxHeartbeats 1000000 in
theorem zero_any (kind arg num rounds test lim : Int) (len cap : Nat) (ao : Option Addr) (w : World) :
    Calls Tryz.prog 69 #[.agg #[.int .i64 kind, .slice ao len cap, .int .i64 arg, .int .u32 num, .int .i64 rounds, .int .i64 test, .int .u32 lim]] w fun e w' => e = .returned (.bool (zB num rounds test lim)) ∧ Below w.heap.size w w' := by
  go_enter Tryz.func69, Tryz.ntmps69
  go_wp2
  all_goals go_ret
  all_goals refine ⟨?_, (Below.refl _ _).alloc (Nat.le_refl _) _⟩
  all_goals (simp [zB]; first | omega | (rw [Bool.eq_iff_iff]; simp; omega))

set_option maxHeartbeats 400000 in
theorem want_any (k : Int) (w : World) :
    Calls Tryz.prog 51 #[.int .i64 k] w fun e w' => e = .returned (.int .i64 (wantN k : Nat)) ∧ w' = w := by
  by_cases h1 : k = 1
  · subst h1
    go_enter Tryz.func51, Tryz.ntmps51
    go_wp2
    go_ret
    exact ⟨rfl, rfl⟩
  by_cases h2 : k = 5
  · subst h2
    go_enter Tryz.func51, Tryz.ntmps51
    go_wp2
    go_ret
    exact ⟨rfl, rfl⟩
  by_cases h3 : k = 6
  · subst h3
    go_enter Tryz.func51, Tryz.ntmps51
    go_wp2
    go_ret
    exact ⟨rfl, rfl⟩
  have hw : wantN k = 1 := by simp [wantN, h1, h2, h3]
  rw [hw]
  have e1 : (k == 1) = false := by simpa using h1
  have e2 : (k == 5) = false := by simpa using h2
  have e3 : (k == 6) = false := by simpa using h3
  clear h1 h2 h3 hw
  go_enter Tryz.func51, Tryz.ntmps51
  go_wp2
  go_ret
  exact ⟨rfl, rfl⟩

set_option maxHeartbeats 2000000 in
theorem form0 (kind arg num rounds test lim : Int) (ins : List Int) (len cap : Nat) (ao : Option Addr) (w : World) (hk : kind < 1 ∨ 8 < kind) :
    Calls Tryz.prog 50 #[.agg #[.int .i64 kind, .slice ao len cap, .int .i64 arg, .int .u32 num, .int .i64 rounds, .int .i64 test, .int .u32 lim]] w fun e w' => e = .returned (.bool (formB ⟨kind, ins, arg, num, rounds, test, lim⟩)) ∧ Below w.heap.size w w' := by
  have h1 : (kind == 1) = false := by simp; omega
  have h2 : (kind == 2) = false := by simp; omega
  have h3 : (kind == 3) = false := by simp; omega
  have h4 : (kind == 4) = false := by simp; omega
  have h5 : (kind == 5) = false := by simp; omega
  have h6 : (kind == 6) = false := by simp; omega
  have h7 : (kind == 7) = false := by simp; omega
  have h8 : (kind == 8) = false := by simp; omega
  have hf : formB ⟨kind, ins, arg, num, rounds, test, lim⟩ = false := by
    unfold formB
    simp only
    rw [if_neg (by omega), if_neg (by omega), if_neg (by omega), if_neg (by omega), if_neg (by omega), if_neg (by omega)]
  rw [hf]
  clear hk hf
  go_enter Tryz.func50, Tryz.ntmps50
  go_wp2
  go_ret
  exact ⟨rfl, (Below.refl _ _).alloc (Nat.le_refl _) _⟩

set_option maxHeartbeats 2000000 in
theorem form1 (arg num rounds test lim : Int) (ins : List Int) (len cap : Nat) (ao : Option Addr) (w : World) :
    Calls Tryz.prog 50 #[.agg #[.int .i64 1, .slice ao len cap, .int .i64 arg, .int .u32 num, .int .i64 rounds, .int .i64 test, .int .u32 lim]] w fun e w' => e = .returned (.bool (formB ⟨1, ins, arg, num, rounds, test, lim⟩)) ∧ Below w.heap.size w w' := by
  go_enter Tryz.func50, Tryz.ntmps50
  go_wp2_with (go_at_call 69; refine (zero_any _ _ _ _ _ _ _ _ _ _).mono ?_; rintro e w' ⟨rfl, hb⟩)
  all_goals go_ret
  all_goals refine ⟨?_, by first | exact (Below.refl _ _).alloc (Nat.le_refl _) _ | exact ((Below.refl _ _).alloc (Nat.le_refl _) _).trans (hb.mono (by simp))⟩
  all_goals (simp [formB, zB]; first | omega | (rw [Bool.eq_iff_iff]; simp; omega))

set_option maxHeartbeats 2000000 in
theorem form2 (arg num rounds test lim : Int) (ins : List Int) (len cap : Nat) (ao : Option Addr) (w : World) :
    Calls Tryz.prog 50 #[.agg #[.int .i64 2, .slice ao len cap, .int .i64 arg, .int .u32 num, .int .i64 rounds, .int .i64 test, .int .u32 lim]] w fun e w' => e = .returned (.bool (formB ⟨2, ins, arg, num, rounds, test, lim⟩)) ∧ Below w.heap.size w w' := by
  go_enter Tryz.func50, Tryz.ntmps50
  go_wp2_with (go_at_call 69; refine (zero_any _ _ _ _ _ _ _ _ _ _).mono ?_; rintro e w' ⟨rfl, hb⟩)
  all_goals go_ret
  all_goals refine ⟨?_, by first | exact (Below.refl _ _).alloc (Nat.le_refl _) _ | exact ((Below.refl _ _).alloc (Nat.le_refl _) _).trans (hb.mono (by simp))⟩
  all_goals (simp [formB, zB]; first | omega | (rw [Bool.eq_iff_iff]; simp; omega))

set_option maxHeartbeats 2000000 in
theorem form3 (arg num rounds test lim : Int) (ins : List Int) (len cap : Nat) (ao : Option Addr) (w : World) :
    Calls Tryz.prog 50 #[.agg #[.int .i64 3, .slice ao len cap, .int .i64 arg, .int .u32 num, .int .i64 rounds, .int .i64 test, .int .u32 lim]] w fun e w' => e = .returned (.bool (formB ⟨3, ins, arg, num, rounds, test, lim⟩)) ∧ Below w.heap.size w w' := by
  go_enter Tryz.func50, Tryz.ntmps50
  go_wp2_with (go_at_call 69; refine (zero_any _ _ _ _ _ _ _ _ _ _).mono ?_; rintro e w' ⟨rfl, hb⟩)
  all_goals go_ret
  all_goals refine ⟨?_, by first | exact (Below.refl _ _).alloc (Nat.le_refl _) _ | exact ((Below.refl _ _).alloc (Nat.le_refl _) _).trans (hb.mono (by simp))⟩
  all_goals (simp [formB, zB]; first | omega | (rw [Bool.eq_iff_iff]; simp; omega))

set_option maxHeartbeats 2000000 in
theorem form4 (arg num rounds test lim : Int) (ins : List Int) (len cap : Nat) (ao : Option Addr) (w : World) :
    Calls Tryz.prog 50 #[.agg #[.int .i64 4, .slice ao len cap, .int .i64 arg, .int .u32 num, .int .i64 rounds, .int .i64 test, .int .u32 lim]] w fun e w' => e = .returned (.bool (formB ⟨4, ins, arg, num, rounds, test, lim⟩)) ∧ Below w.heap.size w w' := by
  go_enter Tryz.func50, Tryz.ntmps50
  go_wp2_with (go_at_call 69; refine (zero_any _ _ _ _ _ _ _ _ _ _).mono ?_; rintro e w' ⟨rfl, hb⟩)
  all_goals go_ret
  all_goals refine ⟨?_, by first | exact (Below.refl _ _).alloc (Nat.le_refl _) _ | exact ((Below.refl _ _).alloc (Nat.le_refl _) _).trans (hb.mono (by simp))⟩
  all_goals (simp [formB, zB]; first | omega | (rw [Bool.eq_iff_iff]; simp; omega))

set_option maxHeartbeats 2000000 in
theorem form5 (arg num rounds test lim : Int) (ins : List Int) (len cap : Nat) (ao : Option Addr) (w : World) :
    Calls Tryz.prog 50 #[.agg #[.int .i64 5, .slice ao len cap, .int .i64 arg, .int .u32 num, .int .i64 rounds, .int .i64 test, .int .u32 lim]] w fun e w' => e = .returned (.bool (formB ⟨5, ins, arg, num, rounds, test, lim⟩)) ∧ Below w.heap.size w w' := by
  go_enter Tryz.func50, Tryz.ntmps50
  go_wp2_with (go_at_call 69; refine (zero_any _ _ _ _ _ _ _ _ _ _).mono ?_; rintro e w' ⟨rfl, hb⟩)
  all_goals go_ret
  all_goals refine ⟨?_, by first | exact (Below.refl _ _).alloc (Nat.le_refl _) _ | exact ((Below.refl _ _).alloc (Nat.le_refl _) _).trans (hb.mono (by simp))⟩
  all_goals (simp [formB, zB]; first | omega | (rw [Bool.eq_iff_iff]; simp; omega))

set_option maxHeartbeats 2000000 in
theorem form6 (arg num rounds test lim : Int) (ins : List Int) (len cap : Nat) (ao : Option Addr) (w : World) :
    Calls Tryz.prog 50 #[.agg #[.int .i64 6, .slice ao len cap, .int .i64 arg, .int .u32 num, .int .i64 rounds, .int .i64 test, .int .u32 lim]] w fun e w' => e = .returned (.bool (formB ⟨6, ins, arg, num, rounds, test, lim⟩)) ∧ Below w.heap.size w w' := by
  go_enter Tryz.func50, Tryz.ntmps50
  go_wp2_with (go_at_call 69; refine (zero_any _ _ _ _ _ _ _ _ _ _).mono ?_; rintro e w' ⟨rfl, hb⟩)
  all_goals go_ret
  all_goals refine ⟨?_, by first | exact (Below.refl _ _).alloc (Nat.le_refl _) _ | exact ((Below.refl _ _).alloc (Nat.le_refl _) _).trans (hb.mono (by simp))⟩
  all_goals (simp [formB, zB]; first | omega | (rw [Bool.eq_iff_iff]; simp; omega))

set_option maxHeartbeats 2000000 in
theorem form7 (arg num rounds test lim : Int) (ins : List Int) (len cap : Nat) (ao : Option Addr) (w : World) :
    Calls Tryz.prog 50 #[.agg #[.int .i64 7, .slice ao len cap, .int .i64 arg, .int .u32 num, .int .i64 rounds, .int .i64 test, .int .u32 lim]] w fun e w' => e = .returned (.bool (formB ⟨7, ins, arg, num, rounds, test, lim⟩)) ∧ Below w.heap.size w w' := by
  go_enter Tryz.func50, Tryz.ntmps50
  go_wp2_with (go_at_call 69; refine (zero_any _ _ _ _ _ _ _ _ _ _).mono ?_; rintro e w' ⟨rfl, hb⟩)
  all_goals go_ret
  all_goals refine ⟨?_, by first | exact (Below.refl _ _).alloc (Nat.le_refl _) _ | exact ((Below.refl _ _).alloc (Nat.le_refl _) _).trans (hb.mono (by simp))⟩
  all_goals (simp [formB]; first | omega | (rw [Bool.eq_iff_iff]; simp; omega))

set_option maxHeartbeats 2000000 in
theorem form8 (arg num rounds test lim : Int) (ins : List Int) (len cap : Nat) (ao : Option Addr) (w : World) :
    Calls Tryz.prog 50 #[.agg #[.int .i64 8, .slice ao len cap, .int .i64 arg, .int .u32 num, .int .i64 rounds, .int .i64 test, .int .u32 lim]] w fun e w' => e = .returned (.bool (formB ⟨8, ins, arg, num, rounds, test, lim⟩)) ∧ Below w.heap.size w w' := by
  go_enter Tryz.func50, Tryz.ntmps50
  go_wp2_with (go_at_call 69; refine (zero_any _ _ _ _ _ _ _ _ _ _).mono ?_; rintro e w' ⟨rfl, hb⟩)
  all_goals go_ret
  all_goals refine ⟨?_, by first | exact (Below.refl _ _).alloc (Nat.le_refl _) _ | exact ((Below.refl _ _).alloc (Nat.le_refl _) _).trans (hb.mono (by simp))⟩
  all_goals (simp [formB, zB]; first | omega | (rw [Bool.eq_iff_iff]; simp; omega))

theorem form_any (x : TOp) (len cap : Nat) (ao : Option Addr) (w : World) :
    Calls Tryz.prog 50 #[.agg #[.int .i64 x.fKind, .slice ao len cap, .int .i64 x.fArg, .int .u32 x.fNum, .int .i64 x.fRounds, .int .i64 x.fTest, .int .u32 x.fLim]] w fun e w' => e = .returned (.bool (formB x)) ∧ Below w.heap.size w w' := by
  obtain ⟨kind, ins, arg, num, rounds, test, lim⟩ := x
  simp only
  by_cases hk : kind < 1 ∨ 8 < kind
  · exact form0 kind arg num rounds test lim ins len cap ao w hk
  · have hcase : kind = 1 ∨ kind = 2 ∨ kind = 3 ∨ kind = 4 ∨ kind = 5 ∨ kind = 6 ∨ kind = 7 ∨ kind = 8 := by omega
    rcases hcase with rfl | rfl | rfl | rfl | rfl | rfl | rfl | rfl
    · exact form1 arg num rounds test lim ins len cap ao w
    · exact form2 arg num rounds test lim ins len cap ao w
    · exact form3 arg num rounds test lim ins len cap ao w
    · exact form4 arg num rounds test lim ins len cap ao w
    · exact form5 arg num rounds test lim ins len cap ao w
    · exact form6 arg num rounds test lim ins len cap ao w
    · exact form7 arg num rounds test lim ins len cap ao w
    · exact form8 arg num rounds test lim ins len cap ao w
end Go.Proofs.YtjmbafcpbagpdaaGreat

/- Graph: the reference's Check. -/
namespace Go.Proofs.YtjmbafcpbagpdaaGreat
open Go.RowKit
set_option linter.unusedVariables false

def goodTo (x : TOp) (i k : Nat) : Bool := (x.fIn.take k).all fun v => decide (0 ≤ v ∧ v < i)
theorem goodTo_zero (x : TOp) (i : Nat) : goodTo x i 0 = true := by simp [goodTo]
theorem goodTo_succ (x : TOp) (i k : Nat) (h : k < x.fIn.length) : goodTo x i (k + 1) = (goodTo x i k && decide (0 ≤ x.fIn[k] ∧ x.fIn[k] < i)) := by
  unfold goodTo
  rw [List.take_succ_eq_append_getElem h, List.all_append]
  simp
theorem goodTo_all (x : TOp) (i : Nat) : goodTo x i x.fIn.length = insB x i := by simp [goodTo, insB]

/-- The three tests ahead of the inputs. -/
def preB (x : TOp) (i n : Nat) : Bool := formB x && decide (x.fIn.length = wantN x.fKind) && decide ((i + 1 = n) ↔ (x.fKind = 8))

set_option maxHeartbeats 4000000 in
theorem rcheck_any (ops : List TOp) (cap : Nat) (ao : Option Addr) (w : World) (B : Nat) (hB : B ≤ w.heap.size) (hx : SlA B 7 (ROp B) w ao cap ops) (h1 : 1 ≤ ops.length) (h2 : ops.length ≤ 16)
    (m : Nat) (hm : m ≤ ops.length) (hbad : ∀ h : m < ops.length, okB ops[m] m ops.length = false) (hgood : ∀ k (h : k < ops.length), k < m → okB ops[k] k ops.length = true) :
    Calls Tryz.prog 29 #[.agg #[.slice ao ops.length cap]] w fun e w' => e = .returned (if m < ops.length then .tuple #[.int .i64 m, .int .i64 13] else .tuple #[.int .i64 0, .int .i64 0]) ∧ Below w.heap.size w w' := by
  obtain ⟨b, off, rfl, hb, _⟩ := hx.addr (by omega)
  obtain ⟨len, hlen'⟩ : ∃ len, len = ops.length := ⟨_, rfl⟩
  have Hm := Lib.hid hlen'
  have hb2 : b < w.heap.size := by omega
  rw [← hlen'] at h1 h2 ⊢
  clear hlen'
  go_enter Tryz.func29, Tryz.ntmps29
  go_wp2_with fail
  go_loopw [5] (fun k wr => ∃ kk : Nat, kk ≤ m ∧ k = .int .i64 kk ∧ wr.cell? ⟨w.heap.size, 0, none⟩ = some (.slice (some ⟨b, off, none⟩) len cap) ∧ w.heap.size < wr.heap.size ∧ Below w.heap.size w wr) (fun k _ => m + 1 - (intOf k).toNat)
  case atStart => exact ⟨0, by omega, rfl, by simp, by simp, (Below.refl _ _).alloc (Nat.le_refl _) _⟩
  case round =>
    obtain ⟨kk, hk, rfl, hc0, hsz, hbel⟩ := hrel
    by_cases hkl : kk < len
    · have hkx : kk < ops.length := by rw [← Hm.out]; exact hkl
      obtain ⟨x, hxx⟩ : ∃ x, ops[kk] = x := ⟨_, rfl⟩
      obtain ⟨ao1, cap1, e0, e1, e2, e3, e4, e5, e6, _, hin, _⟩ := ROp.at (imp_ops hx (hbel.mono hB)) hkx hxx
      replace hxx := Lib.hid hxx
      have hb3 : b < wr.heap.size := by omega
      have hmx := hin.len
      obtain ⟨il, hil⟩ : ∃ il, il = x.fIn.length := ⟨_, rfl⟩
      rw [← hil] at e1 hmx
      replace hil := Lib.hid hil
      go_upto_region 8 with fail
      have hb1 : Below w.heap.size w (wr.alloc (.cells #[.int .i64 x.fKind, .slice ao1 il cap1, .int .i64 x.fArg, .int .u32 x.fNum, .int .i64 x.fRounds, .int .i64 x.fTest, .int .u32 x.fLim] 73)) := hbel.alloc (by omega) _
      have hB1 : Blk (wr.alloc (.cells #[.int .i64 x.fKind, .slice ao1 il cap1, .int .i64 x.fArg, .int .u32 x.fNum, .int .i64 x.fRounds, .int .i64 x.fTest, .int .u32 x.fLim] 73)) wr.heap.size #[.int .i64 x.fKind, .slice ao1 il cap1, .int .i64 x.fArg, .int .u32 x.fNum, .int .i64 x.fRounds, .int .i64 x.fTest, .int .u32 x.fLim] 73 := Blk.new _ _ _
      have hin1 := imp_in hin ((Below.refl B wr).alloc (by omega) (.cells #[.int .i64 x.fKind, .slice ao1 il cap1, .int .i64 x.fArg, .int .u32 x.fNum, .int .i64 x.fRounds, .int .i64 x.fTest, .int .u32 x.fLim] 73))
      have hc1 : (wr.alloc (.cells #[.int .i64 x.fKind, .slice ao1 il cap1, .int .i64 x.fArg, .int .u32 x.fNum, .int .i64 x.fRounds, .int .i64 x.fTest, .int .u32 x.fLim] 73)).cell? ⟨w.heap.size, 0, none⟩ = some (.slice (some ⟨b, off, none⟩) len cap) := by rw [World.cell?_alloc_lt _ _ _ hsz]; exact hc0
      have hs1 : wr.heap.size < (wr.alloc (.cells #[.int .i64 x.fKind, .slice ao1 il cap1, .int .i64 x.fArg, .int .u32 x.fNum, .int .i64 x.fRounds, .int .i64 x.fTest, .int .u32 x.fLim] 73)).heap.size := by simp
      obtain ⟨w1, hw1⟩ : ∃ w1, w1 = wr.alloc (.cells #[.int .i64 x.fKind, .slice ao1 il cap1, .int .i64 x.fArg, .int .u32 x.fNum, .int .i64 x.fRounds, .int .i64 x.fTest, .int .u32 x.fLim] 73) := ⟨_, rfl⟩
      rw [← hw1] at hb1 hB1 hin1 hc1 hs1 ⊢
      clear hw1 hc0 hbel hin e0 e1 e2 e3 e4 e5 e6
      obtain ⟨ob, hob⟩ : ∃ ob, ob = wr.heap.size := ⟨_, rfl⟩
      rw [← hob] at hB1 hs1 ⊢
      clear hob hsz
      obtain ⟨pb, hpb⟩ : ∃ pb, pb = preB x kk len := ⟨_, rfl⟩
      go_cut [7] (fun s wx => s = .bool pb ∧ Below w1.heap.size w1 wx)
      case first =>
        have q0 := Wd.cell (hB1.cellAt (i := 0) rfl) hs1
        have q1 := Wd.cell (hB1.cellAt (i := 1) rfl) hs1
        have q2 := Wd.cell (hB1.cellAt (i := 2) rfl) hs1
        have q3 := Wd.cell (hB1.cellAt (i := 3) rfl) hs1
        have q4 := Wd.cell (hB1.cellAt (i := 4) rfl) hs1
        have q5 := Wd.cell (hB1.cellAt (i := 5) rfl) hs1
        have q6 := Wd.cell (hB1.cellAt (i := 6) rfl) hs1
        have hform := fun w => form_any x il cap1 ao1 w
        clear hB1 hx hin1 hb1 hbad hgood
        cases hf : formB x with
        | false =>
          obtain rfl : pb = false := by rw [hpb]; simp [preB, hf]
          rw [hf] at hform
          clear hf hpb
          refine wp_region_below (by kernel_rfl) (by kernel_rfl) ?_
          repeat (go_big_quiet_step ((go_at_call 50; exact Calls.quiet_below (hform _))))
          refine wpQuiet_nil ?_
          rintro _ ⟨u, rfl⟩
          go_wp2_with fail
          go_meet
          exact ⟨rfl, u.h⟩
        | true =>
          rw [hf] at hform
          by_cases hl : il = wantN x.fKind
          · have hl' : ((il : Int) == (wantN x.fKind : Nat)) = true := by simp; omega
            by_cases hs : kk + 1 = len ↔ x.fKind = 8
            · obtain ⟨sb, hsb1, hsb2⟩ := sink_bools hs
              obtain rfl : pb = true := by rw [hpb]; simp [preB, hf, hs, ← hil.out, hl]
              clear hf hpb hl hs
              cases sb
              all_goals
                refine wp_region_below (by kernel_rfl) (by kernel_rfl) ?_
                repeat (go_big_quiet_step (first | (go_at_call 50; exact Calls.quiet_below (hform _)) | (go_at_call 51; exact Calls.quiet_below_same (want_any _ _))))
                refine wpQuiet_nil ?_
                rintro _ ⟨u, rfl⟩
                go_wp2_with fail
                go_meet
                exact ⟨rfl, u.h⟩
            · obtain rfl : pb = false := by rw [hpb]; simp [preB, hs]
              obtain ⟨sb, hsb1, hsb2⟩ : ∃ sb, (x.fKind == 8) = sb ∧ ((kk : Int) == (len : Int) - 1) = !sb := by
                by_cases hk8 : x.fKind = 8
                · exact ⟨true, by simpa using hk8, by simp; omega⟩
                · exact ⟨false, by simpa using hk8, by simp; omega⟩
              clear hf hpb hl hs
              cases sb
              all_goals
                simp only [Bool.not_true, Bool.not_false] at hsb2
                refine wp_region_below (by kernel_rfl) (by kernel_rfl) ?_
                repeat (go_big_quiet_step (first | (go_at_call 50; exact Calls.quiet_below (hform _)) | (go_at_call 51; exact Calls.quiet_below_same (want_any _ _))))
                refine wpQuiet_nil ?_
                rintro _ ⟨u, rfl⟩
                go_wp2_with fail
                go_meet
                exact ⟨rfl, u.h⟩
          · have hl' : ((il : Int) == (wantN x.fKind : Nat)) = false := by simp; omega
            obtain rfl : pb = false := by rw [hpb]; simp [preB, ← hil.out, hl]
            clear hf hpb hl
            refine wp_region_below (by kernel_rfl) (by kernel_rfl) ?_
            repeat (go_big_quiet_step (first | (go_at_call 50; exact Calls.quiet_below (hform _)) | (go_at_call 51; exact Calls.quiet_below_same (want_any _ _))))
            refine wpQuiet_nil ?_
            rintro _ ⟨u, rfl⟩
            go_wp2_with fail
            go_meet
            exact ⟨rfl, u.h⟩
      case rest =>
        obtain ⟨rfl, hbc⟩ := hcut
        have hin2 := imp_in hin1 (hbc.mono (by have := hb1.size; omega))
        have hBc := hB1.below hbc hs1
        have p0 := hBc.cellAt (i := 0) rfl
        have p1 := hBc.cellAt (i := 1) rfl
        have hbw := hb1.trans (hbc.mono hb1.size)
        have hcc : wc.cell? ⟨w.heap.size, 0, none⟩ = some (.slice (some ⟨b, off, none⟩) len cap) := by
          rw [hbc.cell (p := ⟨w.heap.size, 0, none⟩) (World.lt_of_cell hc1)]
          exact hc1
        have hsc : w.heap.size < wc.heap.size := World.lt_of_cell hcc
        clear hc1 hs1 hbc hin1 hb1 hB1
        obtain ⟨gk, hgk⟩ : ∃ gk, gk = (pb && insB x kk) := ⟨_, rfl⟩
        have hok : okB x kk len = gk := by
          rw [hgk, hpb]
          rfl
        replace hpb := Lib.hid hpb
        replace hgk := Lib.hid hgk
        go_wp2_with fail
        go_loop [7, 8] (fun o k => ∃ j : Nat, j ≤ il ∧ k = .int .i64 j ∧ o = .bool (pb && goodTo x kk j)) (fun _ k => il - (intOf k).toNat)
        case atStart => exact ⟨0, by omega, rfl, by rw [goodTo_zero]; simp⟩
        case round =>
          obtain ⟨j, hj, rfl, rfl⟩ := hrel
          by_cases hjl : j < il
          · have hjx : j < x.fIn.length := by rw [← hil.out]; exact hjl
            obtain ⟨b2, off2, rfl, hb4, hcs⟩ := hin2.addr (by omega)
            obtain ⟨cs, _, hcell, hv, _⟩ := hcs j hjx
            have hcj := hcell 0 (by omega)
            rw [hv, Nat.mul_one, Nat.add_zero] at hcj
            have hsucc := goodTo_succ x kk j hjx
            obtain ⟨v, hv⟩ : ∃ v, v = x.fIn[j] := ⟨_, rfl⟩
            rw [← hv] at hcj hsucc
            replace hcj : wc.cell? ⟨b2, off2 + j, none⟩ = some (.int .i64 v) := hcj
            clear hv hcs hcell
            obtain ⟨g, hg⟩ : ∃ g, g = (pb && goodTo x kk j) := ⟨_, rfl⟩
            rw [← hg]
            have hnew : (pb && goodTo x kk (j + 1)) = (g && decide (0 ≤ v ∧ v < (kk : Int))) := by rw [hsucc, hg, Bool.and_assoc]
            replace hnew := Lib.hid hnew
            clear hg hsucc hbad hgood hok hx
            cases g with
            | false =>
              go_wp2_with fail
              go_round
              case rel => exact ⟨j + 1, by omega, by go_num, by rw [hnew.out]; rfl⟩
              case measure => simp [intOf]; omega
            | true =>
              by_cases hv0 : 0 ≤ v
              · have e0 : decide (0 ≤ v) = true := by simpa using hv0
                go_wp2_with fail
                go_round
                case rel => exact ⟨j + 1, by omega, by go_num, by rw [hnew.out]; simp [hv0]⟩
                case measure => simp [intOf]; omega
              · have e0 : decide (0 ≤ v) = false := by simpa using hv0
                go_wp2_with fail
                go_round
                case rel => exact ⟨j + 1, by omega, by go_num, by rw [hnew.out]; simp [hv0]⟩
                case measure => simp [intOf]; omega
          · obtain rfl : j = il := by omega
            have hg2 : (pb && goodTo x kk j) = gk := by rw [hgk.out, hil.out, goodTo_all]
            rw [hg2]
            clear hg2 hjl
            by_cases hkm : kk = m
            · have hok2 : okB x kk len = false := by
                rw [← hxx.out, Hm.out]
                subst hkm
                exact hbad hkx
              obtain rfl : gk = false := hok.symm.trans hok2
              clear hok hok2 hbad hgood hx
              subst hkm
              go_wp2_with fail
              go_ret2
              exact ⟨rfl, hbw⟩
            · have hok2 : okB x kk len = true := by
                rw [← hxx.out, Hm.out]
                exact hgood kk hkx (by omega)
              obtain rfl : gk = true := hok.symm.trans hok2
              clear hok hok2
              go_wp2_with fail
              go_roundw
              case rel => exact ⟨kk + 1, by omega, by go_num, hcc, hsc, hbw⟩
              case measure => simp [intOf]; omega
    · obtain rfl : kk = m := by have := Hm.out; omega
      go_wp2_with fail
      go_ret2
      exact ⟨rfl, hbel⟩
end Go.Proofs.YtjmbafcpbagpdaaGreat

/- Graph: the reference's Check, whole; a graph's value. -/
namespace Go.Proofs.YtjmbafcpbagpdaaGreat
open Go.RowKit
set_option linter.unusedVariables false

set_option maxHeartbeats 1000000 in
theorem rcheck_long (n cap : Nat) (ao : Option Addr) (w : World) (h : n < 1 ∨ 16 < n) (_hm : n ≤ 9223372036854775807) :
    Calls Tryz.prog 29 #[.agg #[.slice ao n cap]] w fun e w' => e = .returned (.tuple #[.int .i64 0, .int .i64 2]) ∧ Below w.heap.size w w' := by
  rcases h with h | h
  · go_enter Tryz.func29, Tryz.ntmps29
    go_wp2
    go_ret2
    exact ⟨rfl, (Below.refl _ _).alloc (Nat.le_refl _) _⟩
  · have h' : 1 ≤ n := by omega
    go_enter Tryz.func29, Tryz.ntmps29
    go_wp2
    go_ret2
    exact ⟨rfl, (Below.refl _ _).alloc (Nat.le_refl _) _⟩

theorem rcheck_all (ops : List TOp) (cap : Nat) (ao : Option Addr) (w : World) (B : Nat) (hB : B ≤ w.heap.size) (hx : SlA B 7 (ROp B) w ao cap ops) :
    Calls Tryz.prog 29 #[.agg #[.slice ao ops.length cap]] w fun e w' => e = .returned (.tuple #[.int .i64 (gcheck ops).1, .int .i64 (gcheck ops).2]) ∧ Below w.heap.size w w' := by
  unfold gcheck
  by_cases hl : ops.length < 1 ∨ 16 < ops.length
  · rw [if_pos hl]
    exact rcheck_long _ cap ao w hl hx.len
  rw [if_neg hl]
  rcases ops_cases ops with h | ⟨m, hm, hbad, hgood⟩
  · rw [badFrom_none h]
    have := rcheck_any ops cap ao w B hB hx (by omega) (by omega) ops.length (Nat.le_refl _) (fun h => by omega) (fun k hk _ => h k hk)
    simpa using this
  · rw [badFrom_hit hm hbad hgood]
    have := rcheck_any ops cap ao w B hB hx (by omega) (by omega) m (by omega) (fun _ => hbad) hgood
    simpa [hm] using this

end Go.Proofs.YtjmbafcpbagpdaaGreat
