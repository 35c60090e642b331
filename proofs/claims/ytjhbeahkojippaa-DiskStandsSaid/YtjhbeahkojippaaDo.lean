/- Disk: DiskSynced: the plain law. -/
import Derived.Test.YtjhbeahkojippaaDn
namespace Go.Proofs.Ytjhbeahkojippaa
open Go.RowKit
set_option linter.unusedVariables false

/-- The name of a file. -/
def nm (i : Nat) : ByteArray := strU [102, UInt8.ofNat (97 + i)]
def zz : ByteArray := ⟨#[122, 122]⟩
theorem nm_inj {i j : Nat} (hi : i < 20) (hj : j < 20) (h : nm i = nm j) : i = j := by
  have h2 := strU_inj h
  simp only [List.cons.injEq, true_and, and_true] at h2
  have h3 : (UInt8.ofNat (97 + i)).toNat = (UInt8.ofNat (97 + j)).toNat := by rw [h2]
  simp [UInt8.toNat_ofNat'] at h3
  omega
theorem nm_zz (i : Nat) : nm i ≠ zz := fun h => by
  have h2 : nm i = strU [122, 122] := h
  have h3 := strU_inj h2
  simp at h3
theorem nm_size (i : Nat) : (nm i).size = 2 := rfl
theorem nm_right {i : Nat} (hi : i < 20) : rightN (nm i) = true := by
  unfold rightN nm strU
  rw [ByteArray.toList_eq]
  have h1 : (UInt8.ofNat (97 + i)).toNat = 97 + i := by
    rw [UInt8.toNat_ofNat']
    omega
  have h2 : okC (UInt8.ofNat (97 + i)) = true := by
    unfold okC
    rw [h1]
    simp
    omega
  have h3 : okC 102 = true := by decide
  show (List.all [102, UInt8.ofNat (97 + i)] okC && _ && _) = true
  rw [List.all_cons, List.all_cons, List.all_nil, h2, h3]
  rfl
theorem zz_right : rightN zz = true := by
  unfold rightN zz
  rw [ByteArray.toList_eq]
  decide
theorem withoutL_self {α : Type} {l : List (ByteArray × α)} {s : ByteArray} (h : getL l s = none) : withoutL l s = l := by
  unfold withoutL
  refine List.filter_eq_self.2 (fun p hp => ?_)
  simpa using getL_none.1 h p hp
theorem sumL_with {l : Files} {s : ByteArray} {d : List UInt8} (h : getL l s = none) : sumL (withL l s d) = d.length + sumL l := by
  rw [sumL_perm (withL_perm l s d), withoutL_self h]
  rfl
def lens (fs : List (List UInt8)) : Nat := (fs.map List.length).sum
theorem lens_take {fs : List (List UInt8)} {i : Nat} (h : i < fs.length) : lens (fs.take (i + 1)) = lens (fs.take i) + fs[i].length := by
  unfold lens
  rw [List.take_succ_eq_append_getElem h, List.map_append, List.sum_append]
  rfl
theorem lens_le (fs : List (List UInt8)) {i j : Nat} (h : i ≤ j) : lens (fs.take i) ≤ lens (fs.take j) := by
  obtain ⟨k, rfl⟩ : ∃ k, j = i + k := ⟨j - i, by omega⟩
  unfold lens
  rw [List.take_add]
  simp

/-- The disk behind i files. -/
structure Syn (fs : List (List UInt8)) (i : Nat) (M : DM) : Prop where
  room : M.room = 268435456
  fl : M.fails = false
  chs : M.chs = []
  ok : OkM (2 * i) M
  now : ∀ j, j < 20 → getL M.now (nm j) = if j < i then fs[j]? else none
  safe : ∀ j, j < 20 → getL M.safe (nm j) = if j < i then fs[j]? else none
  sum : sumL M.now = lens (fs.take i)
theorem Syn.zero (fs : List (List UInt8)) : Syn fs 0 (emptyM 268435456) := by
  refine ⟨rfl, rfl, rfl, OkM.empty _ (by omega) (by omega), fun j hj => ?_, fun j hj => ?_, rfl⟩
  · rw [if_neg (by omega)]; rfl
  · rw [if_neg (by omega)]; rfl
def MW (M : DM) (i : Nat) (d : List UInt8) : DM := { M with now := withL M.now (nm i) d, chs := [⟨0, nm i, 0, d⟩] }
def MS (M : DM) (i : Nat) (d : List UInt8) : DM := { M with now := withL M.now (nm i) d, chs := [], safe := withL M.safe (nm i) d }
theorem Syn.step {fs : List (List UInt8)} {i : Nat} {M : DM} (h : Syn fs i M) (hi : i < fs.length) (h20 : i < 20) (hs : lens (fs.take (i + 1)) ≤ 134217728) :
    writeM M (nm i) 0 fs[i] = (0, MW M i fs[i]) ∧ syncM (MW M i fs[i]) (nm i) = (0, MS M i fs[i]) ∧ Syn fs (i + 1) (MS M i fs[i]) := by
  have hl := lens_take hi
  have hnow := h.now i h20
  have hsafe := h.safe i h20
  rw [if_neg (Nat.lt_irrefl i)] at hnow hsafe
  have hr : readyM M (nm i) 0 = 0 := by unfold readyM; rw [h.fl, nm_right h20]; simp
  have hr2 : readyM (MW M i fs[i]) (nm i) 0 = 0 := by unfold readyM; rw [show (MW M i fs[i]).fails = M.fails from rfl, h.fl, nm_right h20]; simp
  have hb : bytesOf M.now (nm i) = [] := by unfold bytesOf; rw [hnow]; rfl
  have e1 : writeM M (nm i) 0 fs[i] = (0, MW M i fs[i]) := by
    unfold writeM
    rw [hr, hb]
    have hc : ¬ (((([] : List UInt8).length : Nat) : Int) < 0 + ((fs[i].length : Nat) : Int) ∧ M.room < (sumL M.now : Int) + 0 + ((fs[i].length : Nat) : Int) - ((([] : List UInt8).length : Nat) : Int)) := by
      rw [h.room, h.sum]
      simp
      intro _
      omega
    rw [if_neg (by simp), if_neg (by simp), if_neg hc, h.chs]
    have ho : overB [] (0 : Int).toNat fs[i] = fs[i] := by unfold overB; simp
    rw [ho]
    rfl
  have hg : getL (withL M.now (nm i) fs[i]) (nm i) = some fs[i] := by rw [getL_withL, if_pos rfl]
  have e2 : syncM (MW M i fs[i]) (nm i) = (0, MS M i fs[i]) := by
    unfold syncM
    rw [hr2]
    unfold MW
    dsimp only
    rw [hg]
    have hlf : leftC [⟨0, nm i, 0, fs[i]⟩] (nm i) = [] := by simp [leftC]
    rw [hlf]
    simp [MS]
  refine ⟨e1, e2, h.room, h.fl, rfl, ?_, ?_, ?_, ?_⟩
  · have o1 := h.ok.write (nm i) 0 fs[i]
    rw [e1] at o1
    have o2 := o1.sync (nm i)
    rw [e2] at o2
    exact o2.mono (by omega)
  · intro j hj
    show getL (withL M.now (nm i) fs[i]) (nm j) = _
    rw [getL_withL]
    by_cases hji : j = i
    · subst hji
      rw [if_pos rfl, if_pos (by omega), List.getElem?_eq_getElem hi]
    · rw [if_neg (fun e => hji (nm_inj hj h20 e)), h.now j hj]
      by_cases hlt : j < i
      · rw [if_pos hlt, if_pos (by omega)]
      · rw [if_neg hlt, if_neg (by omega)]
  · intro j hj
    show getL (withL M.safe (nm i) fs[i]) (nm j) = _
    rw [getL_withL]
    by_cases hji : j = i
    · subst hji
      rw [if_pos rfl, if_pos (by omega), List.getElem?_eq_getElem hi]
    · rw [if_neg (fun e => hji (nm_inj hj h20 e)), h.safe j hj]
      by_cases hlt : j < i
      · rw [if_pos hlt, if_pos (by omega)]
      · rw [if_neg hlt, if_neg (by omega)]
  · show sumL (withL M.now (nm i) fs[i]) = _
    rw [sumL_with hnow, h.sum, hl]
    omega
/-- Behind the crash. -/
theorem Syn.crash {fs : List (List UInt8)} {i : Nat} {M : DM} (h : Syn fs i M) (extra : List UInt8) (picks : List Int) {j : Nat} (hj : j < i) (h20 : j < 20) :
    getL (crashM (writeM M zz 0 extra).2 picks).now (nm j) = fs[j]? := by
  have hs := h.safe j h20
  rw [if_pos hj] at hs
  have hM : getL (crashM M picks).now (nm j) = fs[j]? := by
    show getL (fallsM picks 0 M.chs M.safe) (nm j) = _
    rw [h.chs]
    exact hs
  unfold writeM
  split
  · exact hM
  split
  · exact hM
  split
  · exact hM
  show getL (fallsM picks 0 (M.chs ++ [⟨0, zz, (0 : Int).toNat, extra⟩]) M.safe) (nm j) = _
  rw [h.chs]
  show getL (fallM M.safe ⟨0, zz, (0 : Int).toNat, extra⟩ (pickM picks 0)) (nm j) = _
  unfold fallM
  rw [if_pos rfl]
  split
  · exact hs
  · rw [getL_withL, if_neg (nm_zz j)]
    exact hs
end Go.Proofs.Ytjhbeahkojippaa
