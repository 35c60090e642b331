/- Disk: the document's disk as plain functions. -/
import Derived.Test.YtjgiphoolfhlmaaL9
namespace Go.Proofs.Ytjgiphoolfhlmaa
open Go.RowKit
set_option linter.unusedVariables false

def okC (c : UInt8) : Bool := (decide (97 ≤ c.toNat) && decide (c.toNat ≤ 122)) || (decide (48 ≤ c.toNat) && decide (c.toNat ≤ 57)) || c.toNat == 45
/-- Is the name right? -/
def rightN (s : ByteArray) : Bool := s.toList.all okC && decide (1 ≤ s.size) && decide (s.size ≤ 32)

structure CM where
  kind : Nat
  name : ByteArray
  pos : Nat
  data : List UInt8
abbrev Files := List (ByteArray × List UInt8)
structure DM where
  room : Int
  fails : Bool
  now : Files
  safe : Files
  chs : List CM

def bytesOf (l : Files) (s : ByteArray) : List UInt8 := (getL l s).getD []
/-- Bytes with others from a place on. -/
def overB (b : List UInt8) (k : Nat) (d : List UInt8) : List UInt8 := b.take k ++ d ++ b.drop (k + d.length)
def sumL (l : Files) : Nat := (l.map (fun p => p.2.length)).sum
def readyM (M : DM) (s : ByteArray) (n : Int) : Nat := if M.fails then 16 else if rightN s = false ∨ n < 0 then 1 else 0

def writeM (M : DM) (s : ByteArray) (n : Int) (d : List UInt8) : Nat × DM :=
  if readyM M s n ≠ 0 then (readyM M s n, M)
  else if ((bytesOf M.now s).length : Int) < n then (8, M)
  else if ((bytesOf M.now s).length : Int) < n + d.length ∧ M.room < (sumL M.now : Int) + n + d.length - (bytesOf M.now s).length then (6, M)
  else (0, { M with now := withL M.now s (overB (bytesOf M.now s) n.toNat d), chs := M.chs ++ [⟨0, s, n.toNat, d⟩] })
def cutM (M : DM) (s : ByteArray) (n : Int) : Nat × DM :=
  if readyM M s n ≠ 0 then (readyM M s n, M)
  else match getL M.now s with
    | none => (7, M)
    | some b => if (b.length : Int) < n then (8, M) else (0, { M with now := withL M.now s (b.take n.toNat), chs := M.chs ++ [⟨1, s, n.toNat, []⟩] })
def removeM (M : DM) (s : ByteArray) : Nat × DM :=
  if readyM M s 0 ≠ 0 then (readyM M s 0, M)
  else match getL M.now s with
    | none => (7, M)
    | some b => (0, { M with now := withoutL M.now s, chs := M.chs ++ [⟨2, s, 0, []⟩] })
def leftC (l : List CM) (s : ByteArray) : List CM := l.filter (fun c => !decide (c.name = s))
def syncM (M : DM) (s : ByteArray) : Nat × DM :=
  if readyM M s 0 ≠ 0 then (readyM M s 0, M)
  else if getL M.now s = none ∧ getL M.safe s = none ∧ (leftC M.chs s).length = M.chs.length then (7, M)
  else (0, { M with chs := leftC M.chs s, safe := match getL M.now s with | some b => withL M.safe s b | none => withoutL M.safe s })
/-- A change comes down to the disk, as much of it as its pick says. -/
def fallM (S : Files) (c : CM) (p : Nat) : Files :=
  if c.kind = 0 then (if min p c.data.length = 0 ∨ (bytesOf S c.name).length < c.pos then S else withL S c.name (overB (bytesOf S c.name) c.pos (c.data.take p)))
  else if p = 0 then S
  else if c.kind = 1 then (match getL S c.name with | some b => if c.pos < b.length then withL S c.name (b.take c.pos) else S | none => S)
  else withoutL S c.name
def pickM (picks : List Int) (i : Nat) : Nat := (picks.getD i 0).toNat
def fallsM (picks : List Int) : Nat → List CM → Files → Files
  | _, [], S => S
  | i, c :: r, S => fallsM picks (i + 1) r (fallM S c (pickM picks i))
def crashM (M : DM) (picks : List Int) : DM := { M with fails := false, now := fallsM picks 0 M.chs M.safe, safe := fallsM picks 0 M.chs M.safe, chs := [] }
def limitM (M : DM) (r : Int) : Nat × DM := if r < 0 ∨ 1073741824 < r then (1, M) else (0, { M with room := r })
def failM (M : DM) (b : Bool) : DM := { M with fails := b }

/-- What is always so: N bounds how much there is. -/
structure OkM (N : Nat) (M : DM) : Prop where
  room : 0 ≤ M.room ∧ M.room ≤ 1073741824
  now : Srt M.now
  safe : Srt M.safe
  nown : ∀ p ∈ M.now, p.1.size ≤ 32 ∧ p.2.length ≤ 1073741824
  safen : ∀ p ∈ M.safe, p.1.size ≤ 32 ∧ p.2.length ≤ 1073741824
  chn : ∀ c ∈ M.chs, c.kind ≤ 2 ∧ c.name.size ≤ 32 ∧ c.pos + c.data.length ≤ 1073741824 ∧ (c.kind ≠ 0 → c.data = [])
  ln : M.now.length ≤ N
  lsc : M.safe.length + M.chs.length ≤ N

theorem sumL_perm {l l' : Files} (h : l.Perm l') : sumL l = sumL l' := (h.map _).sum_nat
theorem sumL_mem {l : Files} {p : ByteArray × List UInt8} (h : p ∈ l) : p.2.length ≤ sumL l := by
  unfold sumL
  induction l with
  | nil => cases h
  | cons q r ih =>
    rw [List.map_cons, List.sum_cons]
    rcases List.mem_cons.1 h with rfl | h
    · omega
    · have := ih h; omega
theorem sumL_le {l : Files} {B : Nat} (h : ∀ p ∈ l, p.2.length ≤ B) : sumL l ≤ l.length * B := by
  unfold sumL
  induction l with
  | nil => simp
  | cons q r ih =>
    rw [List.map_cons, List.sum_cons, List.length_cons, Nat.add_mul]
    have := h q (by simp)
    have := ih (fun p hp => h p (by simp [hp]))
    omega
theorem bytesOf_mem {l : Files} {s : ByteArray} (h : bytesOf l s ≠ []) : (s, bytesOf l s) ∈ l := by
  unfold bytesOf at h ⊢
  cases hg : getL l s with
  | none => rw [hg] at h; exact absurd rfl h
  | some b => exact getL_mem hg
theorem bytesOf_le {l : Files} {B : Nat} (h : ∀ p ∈ l, p.2.length ≤ B) (s : ByteArray) : (bytesOf l s).length ≤ B := by
  by_cases he : bytesOf l s = []
  · rw [he]; simp
  · exact h _ (bytesOf_mem he)
theorem bytesOf_sum (l : Files) (s : ByteArray) : (bytesOf l s).length ≤ sumL l := by
  by_cases he : bytesOf l s = []
  · rw [he]; simp
  · exact sumL_mem (bytesOf_mem he)
theorem overB_len {b d : List UInt8} {k : Nat} (h : k ≤ b.length) : (overB b k d).length = max b.length (k + d.length) := by
  unfold overB
  simp
  omega
theorem rightN_size {s : ByteArray} (h : rightN s = true) : s.size ≤ 32 := by
  unfold rightN at h
  simp at h
  omega
theorem ready0 {M : DM} {s : ByteArray} {n : Int} (h : readyM M s n = 0) : M.fails = false ∧ rightN s = true ∧ 0 ≤ n := by
  unfold readyM at h
  cases hf : M.fails
  · rw [hf] at h
    simp only [Bool.false_eq_true, if_false] at h
    by_cases h2 : rightN s = false ∨ n < 0
    · rw [if_pos h2] at h; cases h
    · exact ⟨rfl, by cases hr : rightN s <;> simp_all, by omega⟩
  · rw [hf] at h; simp at h

section
variable {N : Nat} {M : DM} {s : ByteArray} {n : Int} {d : List UInt8}
theorem files_with {l : Files} {B : Nat} {b : List UInt8} (h : ∀ p ∈ l, p.1.size ≤ 32 ∧ p.2.length ≤ B) (hs : s.size ≤ 32) (hb : b.length ≤ B) : ∀ p ∈ withL l s b, p.1.size ≤ 32 ∧ p.2.length ≤ B := fun p hp => by
  rcases mem_withL hp with rfl | ⟨hp, _⟩
  · exact ⟨hs, hb⟩
  · exact h p hp
theorem files_without {l : Files} {B : Nat} (h : ∀ p ∈ l, p.1.size ≤ 32 ∧ p.2.length ≤ B) : ∀ p ∈ withoutL l s, p.1.size ≤ 32 ∧ p.2.length ≤ B := fun p hp => h p (mem_withoutL.1 hp).1

theorem OkM.mono {N' : Nat} (h : OkM N M) (hN : N ≤ N') : OkM N' M := ⟨h.room, h.now, h.safe, h.nown, h.safen, h.chn, by have := h.ln; omega, by have := h.lsc; omega⟩
/-- What a write that is done leaves in bounds. -/
theorem write_len (h : OkM N M) (hn : 0 ≤ n) (h1 : ¬ ((bytesOf M.now s).length : Int) < n) (h2 : ¬ (((bytesOf M.now s).length : Int) < n + d.length ∧ M.room < (sumL M.now : Int) + n + d.length - (bytesOf M.now s).length)) :
    n.toNat + d.length ≤ 1073741824 ∧ (overB (bytesOf M.now s) n.toNat d).length ≤ 1073741824 := by
  have hb := bytesOf_le (B := 1073741824) (fun p hp => (h.nown p hp).2) s
  have hs := bytesOf_sum M.now s
  have hr := h.room
  rw [overB_len (by omega)]
  omega
theorem OkM.write (h : OkM N M) (s : ByteArray) (n : Int) (d : List UInt8) : OkM (N + 1) (writeM M s n d).2 := by
  unfold writeM
  have h' := h.mono (Nat.le_succ N)
  split
  · exact h'
  rename_i hr
  obtain ⟨hf, hrt, hn⟩ := ready0 (by simpa using hr)
  have hsz := rightN_size hrt
  split
  · exact h'
  split
  · exact h'
  rename_i h1 h2
  obtain ⟨h3, h4⟩ := write_len h hn h1 h2
  refine ⟨h.room, h.now.with, h.safe, files_with h.nown hsz h4, h.safen, ?_, Nat.le_trans (withL_len _ _ _) (Nat.succ_le_succ h.ln), by have := h.lsc; simp; omega⟩
  intro c hc
  rcases List.mem_append.1 hc with hc | hc
  · exact h.chn c hc
  · obtain rfl : c = ⟨0, s, n.toNat, d⟩ := by simpa using hc
    exact ⟨by simp, hsz, h3, fun e => absurd rfl e⟩
theorem OkM.cut (h : OkM N M) (s : ByteArray) (n : Int) : OkM (N + 1) (cutM M s n).2 := by
  unfold cutM
  have h' := h.mono (Nat.le_succ N)
  split
  · exact h'
  rename_i hr
  obtain ⟨hf, hrt, hn⟩ := ready0 (by simpa using hr)
  have hsz := rightN_size hrt
  cases hg : getL M.now s with
  | none => exact h'
  | some b =>
    dsimp only
    split
    · exact h'
    rename_i h1
    have hb := (h.nown _ (getL_mem hg)).2
    refine ⟨h.room, h.now.with, h.safe, files_with h.nown hsz (by dsimp only at hb; simp; omega), h.safen, ?_, Nat.le_trans (withL_len _ _ _) (Nat.succ_le_succ h.ln), by have := h.lsc; simp; omega⟩
    intro c hc
    rcases List.mem_append.1 hc with hc | hc
    · exact h.chn c hc
    · obtain rfl : c = ⟨1, s, n.toNat, []⟩ := by simpa using hc
      exact ⟨by simp, hsz, by simp; dsimp only at hb; omega, fun _ => rfl⟩
theorem OkM.remove (h : OkM N M) (s : ByteArray) : OkM (N + 1) (removeM M s).2 := by
  unfold removeM
  have h' := h.mono (Nat.le_succ N)
  split
  · exact h'
  rename_i hr
  obtain ⟨hf, hrt, hn⟩ := ready0 (by simpa using hr)
  have hsz := rightN_size hrt
  cases hg : getL M.now s with
  | none => exact h'
  | some b =>
    refine ⟨h.room, h.now.without s, h.safe, files_without h.nown, h.safen, ?_, Nat.le_trans (withoutL_len _ _) (Nat.le_trans h.ln (Nat.le_succ N)), by have := h.lsc; simp; omega⟩
    intro c hc
    rcases List.mem_append.1 hc with hc | hc
    · exact h.chn c hc
    · obtain rfl : c = ⟨2, s, 0, []⟩ := by simpa using hc
      exact ⟨by simp, hsz, by simp, fun _ => rfl⟩
theorem OkM.sync (h : OkM N M) (s : ByteArray) : OkM (N + 1) (syncM M s).2 := by
  unfold syncM
  have h' := h.mono (Nat.le_succ N)
  split
  · exact h'
  rename_i hr
  obtain ⟨hf, hrt, hn⟩ := ready0 (by simpa using hr)
  have hsz := rightN_size hrt
  split
  · exact h'
  have hc : ∀ c ∈ leftC M.chs s, c ∈ M.chs := fun c hc => (List.mem_filter.1 hc).1
  have hl : (leftC M.chs s).length ≤ M.chs.length := List.length_filter_le _ _
  have hlsc := h.lsc
  cases hg : getL M.now s with
  | none => exact ⟨h.room, h.now, h.safe.without s, h.nown, files_without h.safen, fun c hc2 => h.chn c (hc c hc2), h'.ln, by have := withoutL_len M.safe s; dsimp only; omega⟩
  | some b =>
    have hb := (h.nown _ (getL_mem hg)).2
    exact ⟨h.room, h.now, h.safe.with, h.nown, files_with h.safen hsz hb, fun c hc2 => h.chn c (hc c hc2), h'.ln, by have := withL_len M.safe s b; dsimp only; omega⟩
/-- Files as they may be: K bounds their number. -/
structure OkF (K : Nat) (S : Files) : Prop where
  srt : Srt S
  fil : ∀ p ∈ S, p.1.size ≤ 32 ∧ p.2.length ≤ 1073741824
  len : S.length ≤ K
theorem OkF.fall {K : Nat} {S : Files} {c : CM} (h : OkF K S) (hc : c.name.size ≤ 32 ∧ c.pos + c.data.length ≤ 1073741824) (p : Nat) : OkF (K + 1) (fallM S c p) := by
  have h' : OkF (K + 1) S := ⟨h.srt, h.fil, Nat.le_trans h.len (Nat.le_succ K)⟩
  have hb := bytesOf_le (B := 1073741824) (fun p hp => (h.fil p hp).2) c.name
  unfold fallM
  split
  · split
    · exact h'
    · rename_i h1
      have h2 : c.pos ≤ (bytesOf S c.name).length := by omega
      refine ⟨h.srt.with, files_with h.fil hc.1 ?_, Nat.le_trans (withL_len _ _ _) (Nat.succ_le_succ h.len)⟩
      rw [overB_len h2, List.length_take]
      omega
  · split
    · exact h'
    · split
      · cases hg : getL S c.name with
        | none => exact h'
        | some b =>
          dsimp only
          split
          · have hb2 := (h.fil _ (getL_mem hg)).2
            exact ⟨h.srt.with, files_with h.fil hc.1 (by simp; dsimp only at hb2; omega), Nat.le_trans (withL_len _ _ _) (Nat.succ_le_succ h.len)⟩
          · exact h'
      · exact ⟨h.srt.without _, files_without h.fil, Nat.le_trans (withoutL_len _ _) (Nat.le_trans h.len (Nat.le_succ K))⟩
theorem OkF.falls (picks : List Int) : ∀ (l : List CM) (i K : Nat) {S : Files}, OkF K S → (∀ c ∈ l, c.name.size ≤ 32 ∧ c.pos + c.data.length ≤ 1073741824) → OkF (K + l.length) (fallsM picks i l S)
  | [], i, K, S, h, _ => h
  | c :: r, i, K, S, h, hc => by
    have := OkF.falls picks r (i + 1) (K + 1) (h.fall (hc c (by simp)) (pickM picks i)) (fun x hx => hc x (by simp [hx]))
    rw [List.length_cons, show K + (r.length + 1) = K + 1 + r.length by omega]
    exact this
theorem OkM.crash (h : OkM N M) (picks : List Int) : OkM N (crashM M picks) := by
  have := OkF.falls picks M.chs 0 M.safe.length ⟨h.safe, h.safen, Nat.le_refl _⟩ (fun c hc => ⟨(h.chn c hc).2.1, (h.chn c hc).2.2.1⟩)
  have hl := h.lsc
  have hlen := this.len
  refine ⟨h.room, this.srt, this.srt, this.fil, this.fil, fun c hc => ?_, Nat.le_trans hlen hl, Nat.le_trans hlen hl⟩
  cases hc
end
end Go.Proofs.Ytjgiphoolfhlmaa
