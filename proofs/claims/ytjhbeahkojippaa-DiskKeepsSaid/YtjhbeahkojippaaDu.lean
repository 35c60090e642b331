/- Disk: DiskKeeps: its states; rows that stay. -/
import Derived.Test.YtjhbeahkojippaaDt
namespace Go.Proofs.Ytjhbeahkojippaa
open Go.RowKit Go.Maps
set_option linter.unusedVariables false

def K0 : DM := emptyM 1048576
def KA (d : List UInt8) : DM := ⟨1048576, false, [(sA, d)], [], [⟨0, sA, 0, d⟩]⟩
def KB (d : List UInt8) : DM := ⟨1048576, false, [(sA, d)], [(sA, d)], []⟩
def KC (d : List UInt8) : DM := ⟨1048576, false, [(sA, overB d 0 [122])], [(sA, d)], [⟨0, sA, 0, [122]⟩]⟩
theorem ka {d : List UInt8} (h : d.length ≤ 524288) : writeM K0 sA 0 d = (0, KA d) := by
  have hr : readyM K0 sA 0 = 0 := by unfold readyM; simp [K0, emptyM, right_a]
  unfold writeM
  rw [hr]
  have hc : ¬ (((([] : List UInt8).length : Nat) : Int) < 0 + ((d.length : Nat) : Int) ∧ K0.room < ((sumL K0.now : Nat) : Int) + 0 + ((d.length : Nat) : Int) - ((([] : List UInt8).length : Nat) : Int)) := by
    have h1 : sumL K0.now = 0 := rfl
    have h2 : K0.room = 1048576 := rfl
    rw [h1, h2]
    simp
    intro _
    omega
  have hb : bytesOf K0.now sA = [] := rfl
  rw [hb, if_neg (by simp), if_neg (by simp)]
  rw [if_neg hc]
  simp [K0, emptyM, KA, overB, withL]
theorem kb (d : List UInt8) : syncM (KA d) sA = (0, KB d) := by
  have hr : readyM (KA d) sA 0 = 0 := by unfold readyM; simp [KA, right_a]
  unfold syncM
  rw [hr]
  simp [getL, withL, leftC, KA, KB]
theorem kc (d : List UInt8) : writeM (KB d) sA 0 [122] = (0, KC d) := by
  have hr : readyM (KB d) sA 0 = 0 := by unfold readyM; simp [KB, right_a]
  unfold writeM
  rw [hr]
  have hb : bytesOf (KB d).now sA = d := by simp [KB, bytesOf, getL]
  have hs : sumL (KB d).now = d.length := by simp [KB, sumL]
  rw [hb, hs, if_neg (by simp), if_neg (by omega), if_neg (by
    show ¬ ((d.length : Int) < 0 + ((1 : Nat) : Int) ∧ (1048576 : Int) < (d.length : Int) + 0 + ((1 : Nat) : Int) - (d.length : Int))
    omega)]
  simp [KB, KC, withL, less_self]
/-- What is read behind the crash. -/
theorem kd (d : List UInt8) (picks : List Int) : ∃ fd, bytesOf (crashM (KC d) picks).now sA = fd ∧ d.length ≤ fd.length ∧ (1 < d.length → fd.drop 1 = d.drop 1) ∧ fd.length ≤ d.length + 1 := by
  refine ⟨_, rfl, ?_⟩
  have hb : bytesOf [(sA, d)] sA = d := by simp [bytesOf, getL]
  show d.length ≤ (bytesOf (fallM [(sA, d)] ⟨0, sA, 0, [122]⟩ (pickM picks 0)) sA).length ∧ (1 < d.length → (bytesOf (fallM [(sA, d)] ⟨0, sA, 0, [122]⟩ (pickM picks 0)) sA).drop 1 = d.drop 1) ∧ (bytesOf (fallM [(sA, d)] ⟨0, sA, 0, [122]⟩ (pickM picks 0)) sA).length ≤ d.length + 1
  unfold fallM
  rw [if_pos rfl]
  by_cases hc : min (pickM picks 0) ([122] : List UInt8).length = 0 ∨ (bytesOf [(sA, d)] sA).length < 0
  · rw [if_pos hc, hb]
    exact ⟨Nat.le_refl _, fun _ => rfl, by omega⟩
  · rw [if_neg hc]
    have hp : ([122] : List UInt8).take (pickM picks 0) = [122] := List.take_of_length_le (by simp at hc ⊢; omega)
    rw [hp, hb]
    have : bytesOf (withL [(sA, d)] sA (overB d 0 [122])) sA = overB d 0 [122] := by
      unfold bytesOf
      rw [getL_withL, if_pos rfl]
      rfl
    rw [this]
    unfold overB
    refine ⟨by simp; try omega, fun _ => by simp, by simp; try omega⟩

def encN (n : Int) : List Value := [.int .i64 n]
theorem encN_len (n : Int) : (encN n).length = 1 := rfl
theorem encN_one (n : Int) : ∀ u ∈ encN n, u.oneCell' = true := by
  intro u hu
  obtain rfl : u = .int .i64 n := by simpa [encN] using hu
  rfl
/-- A row of bytes of the call's own stays when the disk turns. -/
theorem own_keep {w w' : World} {base base2 b : Nat} {v : Value} {bs : List UInt8} {x : DX} {M : DM} (h : OwnL encU w base 5 1 v bs) (hD : Dsk w base2 b x M) (hc : Chg (DS x b) w w') : OwnL encU w' base 5 1 v bs :=
  h.chg hc (fun g e s => by
    rcases h.form with ⟨h1, _⟩ | ⟨g', cap, cells, h1, h2, _⟩
    · rw [h1] at e; cases e
    · rw [h1] at e
      obtain rfl : g' = g := by simpa [Value.ownBlock] using e
      exact hD.noU8 g' s _ h2)
theorem own_keepN {w w' : World} {base base2 b : Nat} {v : Value} {ns : List Int} {x : DX} {M : DM} (h : OwnL encN w base 3 1 v ns) (hD : Dsk w base2 b x M) (hc : Chg (DS x b) w w') : OwnL encN w' base 3 1 v ns :=
  h.chg hc (fun g e s => by
    rcases s with rfl | rfl | rfl | s
    · exact h.ne_blk hD.blk (by decide) e
    · rcases h.form with ⟨h1, _⟩ | ⟨g', cap, cells, h1, h2, _⟩
      · rw [h1] at e; cases e
      · rw [h1] at e
        obtain rfl : g' = x.mn := by simpa [Value.ownBlock] using e
        exact hD.mapn.ne_blk h2 rfl
    · rcases h.form with ⟨h1, _⟩ | ⟨g', cap, cells, h1, h2, _⟩
      · rw [h1] at e; cases e
      · rw [h1] at e
        obtain rfl : g' = x.md := by simpa [Value.ownBlock] using e
        exact hD.maps.ne_blk h2 rfl
    · rcases h.form with ⟨h1, _⟩ | ⟨g', cap, cells, h1, h2, _⟩
      · rw [h1] at e; cases e
      · rw [h1] at e
        obtain rfl : g' = g := by simpa [Value.ownBlock] using e
        exact hD.row.ne_blk h2 (by decide) s)
theorem safe_nil {w : World} {base b : Nat} {x : DX} {M : DM} (h : Dsk w base b x M) (hs : M.safe = []) : x.safe = [] := by
  have := h.perms.length_eq
  rw [hs] at this
  simpa [mapL] using this

section
variable {base b : Nat} {x : DX} {M M' : DM} {N : Nat}
/-- A step of the disk: all that is known of it. -/
structure St (w : World) (base b : Nat) (x x' : DX) (M' : DM) (w' : World) : Prop where
  d : Dsk w' base b x' M'
  c : Chg (DS x b) w w'
  bel : Below base w w'
  new : NewF w x x'
theorem St.of {w w' : World} (h : Dsk w base b x M) (hb : base ≤ w.heap.size) (hs : DStep w base b x M' w') : ∃ x', St w base b x x' M' w' := by
  obtain ⟨x', h1, h2, h3, h4⟩ := hs
  exact ⟨x', h1, h2, h2.below hb (fun k hk e => by have := h.base_le k e; omega), h4⟩
theorem write_st (e0 : Nat) (s : ByteArray) (n : Int) (da : Option Addr) (dc : Nat) (db : List UInt8) (w : World) (hs : s.size ≤ maxLen) (h : Dsk w base b x M) (hok : OkM N M) (hN : N ≤ 1000000) (hb : base ≤ w.heap.size) (hd : SlA w.heap.size 1 EU w da dc db) (hdz : db.length ≤ 140737488355328) (hm : writeM M s n db = (e0, M')) :
    Calls Try.prog 10 #[.pointer (some ⟨b, 0, none⟩), .string s, .int .i64 n, .slice da db.length dc] w fun e w' => e = .returned (.int .i64 e0) ∧ ∃ x', St w base b x x' M' w' := by
  refine (write_any s n da dc db w hs h hok hN hb hd hdz).mono ?_
  rintro e w' ⟨rfl, hst⟩
  rw [hm] at hst ⊢
  exact ⟨rfl, St.of h hb hst⟩
theorem sync_st (e0 : Nat) (s : ByteArray) (w : World) (hs : s.size ≤ maxLen) (h : Dsk w base b x M) (hok : OkM N M) (hN : N ≤ 1000000) (hb : base ≤ w.heap.size) (hm : syncM M s = (e0, M')) :
    Calls Try.prog 11 #[.pointer (some ⟨b, 0, none⟩), .string s] w fun e w' => e = .returned (.int .i64 e0) ∧ ∃ x', St w base b x x' M' w' := by
  refine (sync_any s w hs h hok hN hb).mono ?_
  rintro e w' ⟨rfl, hst⟩
  rw [hm] at hst ⊢
  exact ⟨rfl, St.of h hb hst⟩
theorem crash_st (picks : List Int) (pa : Option Addr) (pc : Nat) (w : World) (h : Dsk w base b x M) (hok : OkM N M) (hN : N ≤ 1000000) (hb : base ≤ w.heap.size) (hpk : SlA w.heap.size 1 (RI .i64) w pa pc picks) :
    Calls Try.prog 12 #[.pointer (some ⟨b, 0, none⟩), .slice pa picks.length pc] w fun e w' => (∃ v, e = .returned v) ∧ ∃ x', St w base b x x' (crashM M picks) w' ∧ ∀ g, BlkF x' g → BlkL x.safe g ∨ w.heap.size ≤ g := by
  refine (crash_any picks pa pc w h hok hN hb hpk).mono ?_
  rintro e w' ⟨he, x', h1, h2, h3, h4, h5⟩
  exact ⟨he, x', ⟨h1, h2, h2.below hb (fun k hk e => by have := h.base_le k e; omega), h4⟩, h5⟩
end
end Go.Proofs.Ytjhbeahkojippaa
