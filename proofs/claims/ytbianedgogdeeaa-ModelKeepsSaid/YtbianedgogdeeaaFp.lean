/- Fold: what the document says, in natural numbers: plain Lean. -/
import Derived.KernelRfl
namespace Go.Proofs.Ytbianedgogdeeaa.Fold

def opF (one two : Bool) (n : Nat) : Bool := n == 1 && one || n == 2 && two
def bitsN : Nat → Nat → Nat → (Nat → Bool) → Nat
  | 0, _, _, _ => 0
  | n + 1, a, b, f => (if f (a % 2 + b % 2) then 1 else 0) + 2 * bitsN n (a / 2) (b / 2) f

theorem bitsN_lt (f : Nat → Bool) : ∀ n a b, bitsN n a b f < 2 ^ n
  | 0, _, _ => by simp [bitsN]
  | n + 1, a, b => by
    have := bitsN_lt f n (a / 2) (b / 2)
    simp only [bitsN, Nat.pow_succ]
    split <;> omega
theorem bitsN_xor : ∀ n a b, a < 2 ^ n → b < 2 ^ n → bitsN n a b (opF true false) = a ^^^ b
  | 0, a, b, ha, hb => by
    have h1 : a = 0 := by simp at ha; omega
    have h2 : b = 0 := by simp at hb; omega
    subst h1; subst h2; rfl
  | n + 1, a, b, ha, hb => by
    rw [Nat.pow_succ] at ha hb
    rw [bitsN, bitsN_xor n (a / 2) (b / 2) (by omega) (by omega), ← Nat.xor_div_two]
    have h2 := @Nat.xor_mod_two_eq_one a b
    generalize a ^^^ b = x at h2 ⊢
    have h1 := Nat.mod_add_div x 2
    rcases Nat.mod_two_eq_zero_or_one a with ea | ea <;> rcases Nat.mod_two_eq_zero_or_one b with eb | eb <;> simp [ea, eb, opF] at h2 ⊢ <;> omega
theorem bitsN_and : ∀ n a b, a < 2 ^ n → b < 2 ^ n → bitsN n a b (opF false true) = a &&& b
  | 0, a, b, ha, hb => by
    have h1 : a = 0 := by simp at ha; omega
    have h2 : b = 0 := by simp at hb; omega
    subst h1; subst h2; rfl
  | n + 1, a, b, ha, hb => by
    rw [Nat.pow_succ] at ha hb
    rw [bitsN, bitsN_and n (a / 2) (b / 2) (by omega) (by omega), ← Nat.and_div_two]
    have h2 := @Nat.and_mod_two_eq_one a b
    generalize a &&& b = x at h2 ⊢
    have h1 := Nat.mod_add_div x 2
    rcases Nat.mod_two_eq_zero_or_one a with ea | ea <;> rcases Nat.mod_two_eq_zero_or_one b with eb | eb <;> simp [ea, eb, opF] at h2 ⊢ <;> omega
theorem bitsN_or : ∀ n a b, a < 2 ^ n → b < 2 ^ n → bitsN n a b (opF true true) = a ||| b
  | 0, a, b, ha, hb => by
    have h1 : a = 0 := by simp at ha; omega
    have h2 : b = 0 := by simp at hb; omega
    subst h1; subst h2; rfl
  | n + 1, a, b, ha, hb => by
    rw [Nat.pow_succ] at ha hb
    rw [bitsN, bitsN_or n (a / 2) (b / 2) (by omega) (by omega), ← Nat.or_div_two]
    have h2 := @Nat.or_mod_two_eq_one a b
    generalize a ||| b = x at h2 ⊢
    have h1 := Nat.mod_add_div x 2
    rcases Nat.mod_two_eq_zero_or_one a with ea | ea <;> rcases Nat.mod_two_eq_zero_or_one b with eb | eb <;> simp [ea, eb, opF] at h2 ⊢ <;> omega

def startN (w : Int) (v : Nat) : Nat := if w = 1 then 1 else if w < 0 ∨ 6 < w then 0 else v
def joinN (w : Int) (a b : Nat) : Nat :=
  if w = 0 then (a + b) % 4294967296 else if w = 1 then (a + b) % 4294967296 else if w = 2 then max a b else if w = 3 then min a b
  else if w = 4 then a ^^^ b else if w = 5 then a &&& b else if w = 6 then a ||| b else 0
def mapN (w : Int) (n v : Nat) : Nat :=
  if w = 0 then (v + n) % 4294967296 else if w = 1 then (v * n) % 4294967296 else if w = 2 then v ^^^ n else if w = 3 then v / 2 ^ (n % 32)
  else if w = 4 then n else if w = 5 then (v * v + n) % 4294967296 else 0
def testB (w : Int) (n v : Nat) : Bool :=
  if w = 0 then decide (v < n) else if w = 1 then decide (n ≤ v) else if w = 2 then decide (v &&& n ≠ 0) else if w = 3 then decide (n ≠ 0 ∧ v % n = 0) else false

theorem joinN_comm (w : Int) (a b : Nat) : joinN w a b = joinN w b a := by
  unfold joinN
  rw [Nat.add_comm, Nat.max_comm, Nat.min_comm, Nat.xor_comm, Nat.and_comm, Nat.or_comm]
theorem joinN_assoc (w : Int) (a b c : Nat) : joinN w (joinN w a b) c = joinN w a (joinN w b c) := by
  unfold joinN
  by_cases h0 : w = 0
  · simp only [h0, if_true]; omega
  by_cases h1 : w = 1
  · simp [h1]; omega
  by_cases h2 : w = 2
  · simp [h2, Nat.max_assoc]
  by_cases h3 : w = 3
  · simp [h3, Nat.min_assoc]
  by_cases h4 : w = 4
  · simp [h4, Nat.xor_assoc]
  by_cases h5 : w = 5
  · simp [h5, Nat.and_assoc]
  by_cases h6 : w = 6
  · simp [h6, Nat.or_assoc]
  simp [h0, h1, h2, h3, h4, h5, h6]

/-- Joined, or none. -/
def optJ (w : Int) : Option Nat → Option Nat → Option Nat
  | none, y => y
  | x, none => x
  | some a, some b => some (joinN w a b)
theorem optJ_none (w : Int) (x : Option Nat) : optJ w x none = x := by cases x <;> rfl
theorem optJ_comm (w : Int) (x y : Option Nat) : optJ w x y = optJ w y x := by
  cases x <;> cases y <;> simp [optJ, joinN_comm]
theorem optJ_assoc (w : Int) (x y z : Option Nat) : optJ w (optJ w x y) z = optJ w x (optJ w y z) := by
  cases x <;> cases y <;> cases z <;> simp [optJ, joinN_assoc]

def allO (w : Int) : List Nat → Option Nat
  | [] => none
  | v :: r => optJ w (some (startN w v)) (allO w r)
theorem allO_append (w : Int) (a b : List Nat) : allO w (a ++ b) = optJ w (allO w a) (allO w b) := by
  induction a with
  | nil => rfl
  | cons v r ih => simp only [List.cons_append, allO, ih, optJ_assoc]
theorem allO_snoc (w : Int) (a : List Nat) (v : Nat) : allO w (a ++ [v]) = optJ w (allO w a) (some (startN w v)) := by
  rw [allO_append]; rfl
theorem allO_perm (w : Int) {a b : List Nat} (h : a.Perm b) : allO w a = allO w b := by
  induction h with
  | nil => rfl
  | cons x _ ih => simp only [allO, ih]
  | swap x y l => simp only [allO]; rw [← optJ_assoc, ← optJ_assoc, optJ_comm w (some (startN w y))]
  | trans _ _ ih1 ih2 => exact ih1.trans ih2
theorem allO_isSome (w : Int) (l : List Nat) : (allO w l).isSome = !l.isEmpty := by
  cases l with
  | nil => rfl
  | cons v r => simp only [allO]; cases allO w r <;> rfl

/-- What All answers: the number, and whether there is one. -/
def allN (w : Int) (l : List Nat) : Nat := if w < 0 ∨ 6 < w then 0 else (allO w l).getD 0
def allB (w : Int) (l : List Nat) : Bool := if w < 0 ∨ 6 < w then false else !l.isEmpty

theorem startN_lt (w : Int) (v : Nat) (h : v < 4294967296) : startN w v < 4294967296 := by unfold startN; split; omega; split <;> omega
theorem joinN_lt (w : Int) (a b : Nat) (ha : a < 4294967296) (hb : b < 4294967296) : joinN w a b < 4294967296 := by
  unfold joinN
  split; · exact Nat.mod_lt _ (by decide)
  split; · exact Nat.mod_lt _ (by decide)
  split; · omega
  split; · omega
  split; · exact Nat.xor_lt_two_pow (n := 32) ha hb
  split; · exact Nat.and_lt_two_pow (n := 32) a hb
  split; · exact Nat.or_lt_two_pow (n := 32) ha hb
  decide
end Go.Proofs.Ytbianedgogdeeaa.Fold
