/- Model: the keys of a map, sorted. -/
import Derived.Test.YtbianedgogdeeaaMc
import Derived.Test.YtbianedgogdeeaaLay
namespace Go.Proofs.Ytbianedgogdeeaa
open Go.RowKit Go.Maps Fold Go.Sort Go.Shelf
attribute [local go_sem] Oper.semAt_some
set_option linter.unusedVariables false
set_option linter.unusedSimpArgs false

/-- A string as it lies. -/
def encT (s : ByteArray) : List Value := [.string s]
theorem encT_len (s : ByteArray) : (encT s).length = 1 := rfl
theorem encT_one (s : ByteArray) : ∀ u ∈ encT s, u.oneCell' = true := by
  intro u hu
  simp only [encT, List.mem_singleton] at hu
  subst hu; rfl
def rawS (s : ByteArray) : List UInt8 := s.data.toList
theorem encStr_raw (s : ByteArray) : encStr (rawS s) = .string s := rfl
theorem flatT (l : List ByteArray) : l.flatMap encT = l.map Value.string := by
  induction l with
  | nil => rfl
  | cons a r ih => rw [List.flatMap_cons, ih]; rfl
theorem names_sorted {α : Type} {ss : List (List UInt8)} {L : List (ByteArray × α)} (hs : Srt L) (hp : ss.Perm ((L.map Prod.fst).map rawS)) : ss.mergeSort (fun x y => decide (x ≤ y)) = (L.map Prod.fst).map rawS := by
  have h1 : (ss.mergeSort (fun x y => decide (x ≤ y))).Perm ((L.map Prod.fst).map rawS) := (List.mergeSort_perm _ _).trans hp
  have h2 : (ss.mergeSort (fun x y => decide (x ≤ y))).Pairwise (fun x y => decide (x ≤ y) = true) := List.pairwise_mergeSort (fun a b c h1 h2 => by simpa using List.le_trans (by simpa using h1) (by simpa using h2)) (fun a b => by simpa using List.le_total a b) _
  have h3 : ((L.map Prod.fst).map rawS).Pairwise (fun x y => decide (x ≤ y) = true) := by
    rw [List.pairwise_map, List.pairwise_map]
    unfold Srt at hs
    refine List.Pairwise.imp (fun {a b} h => ?_) hs
    rw [less_eq, ByteArray.toList_eq, ByteArray.toList_eq] at h
    have h4 : rawS a.1 < rawS b.1 := of_decide_eq_true h
    exact decide_eq_true (List.le_of_lt h4)
  exact List.Perm.eq_of_pairwise (le := fun x y => decide (x ≤ y) = true) (fun a b _ _ h1 h2 => List.le_antisymm (by simpa using h1) (by simpa using h2)) h2 h3 h1

theorem sortsT (m : Nat) : AnyZ.SortsIn Try.prog laySorted_ren Fence.wide m :=
  ⟨fun blk off cap ss W hH hblk hsz => callsIn_wide.2 (AnyM.slices_Sort_string laySortT blk off cap ss W hH hblk hsz),
   fun p cap W => callsIn_wide.2 (AnyM.slices_Sort_string_none laySortT p cap W)⟩
theorem mkeys_any (mb : Nat) (w : World) : Calls Try.prog 50 #[.map (some mb)] w fun e w' =>
    e = .returned (.func (.func 66) #[] #[.pointer (some ⟨w.heap.size, 0, none⟩)]) ∧ w' = w.alloc (.cells #[.map (some mb)] 86) := by
  have h : CallsIn Fence.wide 5 Try.prog 50 #[.map (some mb)] w fun e w' =>
    e = .returned (.func (.func 66) #[] #[.pointer (some ⟨w.heap.size, 0, none⟩)]) ∧ w' = w.alloc (.cells #[.map (some mb)] 86) := AnyZ.keys_in layKeys Fence.wide 5 trivial rfl (some mb) w
  exact (callsIn_wide (n := 5)).1 h
theorem sortedM_any {α : Type} (bx mb : Nat) (es : List (ByteArray × Value)) (L : List (ByteArray × α)) (w : World) (hbx : w.cell? ⟨bx, 0, none⟩ = some (.map (some mb))) (hM : MpT w mb es) (hs : Srt L) (hp : (es.map Prod.fst).Perm (L.map Prod.fst)) (hz : es.length * 16 ≤ 140737488355328) :
    Calls Try.prog 49 #[.func (.func 66) #[] #[.pointer (some ⟨bx, 0, none⟩)]] w fun e w' =>
      ∃ v, e = .returned v ∧ OwnL encT w' w.heap.size 9 1 v (L.map Prod.fst) ∧ Below w.heap.size w w' := by
  obtain ⟨l, ho, hl⟩ := hM.own
  have hsz : Maps.size (DataW.map l) = es.length := by rw [Maps.size_eq, hl.length_eq, List.length_map]
  have hseq : SeqGives Fence.wide 2 Try.prog 66 #[.pointer (some ⟨bx, 0, none⟩)] encStr (fun ss => ss.Perm (strKeys (DataW.map l))) (Maps.size (DataW.map l)) w :=
    AnyZ.keys_gives (ρ := layKeys_ren) { layKeys with } Fence.wide _ trivial rfl (by omega) bx mb es.length _ w (World.lt_of_cell hbx) hbx ho
  have cS := AnyZ.sorted_in laySorted Fence.wide 5 trivial trivial trivial trivial rfl (by omega) (sortsT _) (enters_of Try.func65 (by kernel_rfl) rfl) 66 #[.pointer (some ⟨bx, 0, none⟩)] trivial (enters_of Try.func66 (by kernel_rfl) rfl) _ _ (by rw [hsz]; unfold maxLen; omega) (by rw [hsz]; exact hz) _ hseq
  change CallsIn _ _ Try.prog 49 _ _ _ at cS
  refine ((callsIn_wide (n := 5)).1 cS).mono ?_
  rintro e w' ⟨v, ss, rfl, hS, hrow, _, hb⟩
  refine ⟨v, rfl, ?_, hb⟩
  have hp2 : ss.Perm ((L.map Prod.fst).map rawS) := by
    refine hS.trans ?_
    have h1 : strKeys (DataW.map l) = l.map (fun p => strOf p.1) := rfl
    rw [h1]
    refine (hl.map (fun p => strOf p.1)).trans ?_
    rw [List.map_map]
    have h2 : (fun p : Lit × DataW Value => strOf p.1) ∘ encKV klT = rawS ∘ Prod.fst := by
      funext p
      rfl
    rw [h2, ← List.map_map]
    exact hp.map rawS
  have hn := names_sorted hs hp2
  rw [hn] at hrow
  have hlen : ss.length = (L.map Prod.fst).length := by rw [hp2.length_eq, List.length_map]
  rw [hlen] at hrow
  have hmap : (List.map rawS (List.map Prod.fst L)).map encStr = (L.map Prod.fst).flatMap encT := by
    rw [flatT, List.map_map]
    exact List.map_congr_left (fun _ _ => rfl)
  rw [hmap] at hrow
  exact hrow
end Go.Proofs.Ytbianedgogdeeaa
