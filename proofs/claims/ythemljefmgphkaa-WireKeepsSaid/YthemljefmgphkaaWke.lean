/- Wire: the walk of WireKeeps. -/
import Derived.Test.YthemljefmgphkaaWau
namespace Go.Proofs.Ythemljefmgphkaa
open Go.RowKit
set_option linter.unusedVariables false

theorem own_prefix {w : World} {base g n cap : Nat} {bs : List Nat} (h : OwnB w base (.slice (some ⟨g, 0, none⟩) n cap) (bs ++ mark3)) : OwnB w base (.slice (some ⟨g, 0, none⟩) bs.length cap) bs := by
  rcases h.form with ⟨_, h0⟩ | ⟨g', cap', cells, hv, hk, h3, h4, h5, h6, h7, h8⟩
  · simp [mark3] at h0
  · obtain ⟨rfl, rfl⟩ : g = g' ∧ cap = cap' := by simp at hv; exact ⟨hv.1, hv.2.2⟩
    refine OwnL.of_blk hk h6 (by simp [mark3] at h3; omega) h4 h5 ?_ (flat_len encB_len bs)
    have := congrArg (List.take (bs.length * 1)) h8
    rw [List.take_take, List.flatMap_append, List.length_append, List.take_left' (flat_len encB_len bs)] at this
    rw [← this]
    congr 1
    omega

theorem three_get {α : Type} {a b c x : α} {i : Nat} (h : ([a, b, c] : List α)[i]? = some x) : (i = 0 ∧ x = a) ∨ (i = 1 ∧ x = b) ∨ (i = 2 ∧ x = c) := by
  match i, h with
  | 0, h => simp at h; exact .inl ⟨rfl, h.symm⟩
  | 1, h => simp at h; exact .inr (.inl ⟨rfl, h.symm⟩)
  | 2, h => simp at h; exact .inr (.inr ⟨rfl, h.symm⟩)
  | n + 3, h => simp at h

/-- Three rows of the call's own, one made behind the other: Apart tells true. -/
theorem apart3 {w : World} {b0 b1 b2 b3 : Nat} {ao3 ao4 ao5 : Option Addr} {n m cap3 cap4 cap5 lb : Nat} {xs ys zs : List Nat} (h3 : OwnB w b0 (.slice ao3 n cap3) xs) (h4 : OwnB w b1 (.slice ao4 n cap4) ys) (h5 : OwnB w b2 (.slice ao5 m cap5) zs)
    (hx : xs.length = n) (hy : ys.length = n) (hz : zs.length = m) (l3 : ∀ g, (Value.slice ao3 n cap3).ownBlock = some g → g < b1) (l4 : ∀ g, (Value.slice ao4 n cap4).ownBlock = some g → g < b2) (l5 : ∀ g, (Value.slice ao5 m cap5).ownBlock = some g → g < b3) (h01 : b0 ≤ b1) (h12 : b1 ≤ b2) (h23 : b2 ≤ b3) (hn : n ≤ 70000) (hm : m ≤ 70003) (hB : b0 ≤ w.heap.size)
    (hL : Blk w lb #[.slice ao3 n cap3, .slice ao4 n cap4, .slice ao5 m cap5] 23) :
    Calls Try.prog 24 #[.slice (some ⟨lb, 0, none⟩) 3 3] w fun e w' => e = .returned (.bool true) ∧ Chg (fun b => b0 ≤ b ∧ b < b3) w w' := by
  have k3 := fun k => RowJ.of_own h3 k
  have k4 := fun k => RowJ.of_own h4 k
  have k5 := fun k => RowJ.of_own h5 k
  rw [hx] at k3
  rw [hy] at k4
  rw [hz] at k5
  have q3 : ∀ g, (sv ⟨ao3, n, cap3⟩).ownBlock = some g → b0 ≤ g ∧ g < b1 := fun g hg => ⟨(h3.lt g hg).1, l3 g hg⟩
  have q4 : ∀ g, (sv ⟨ao4, n, cap4⟩).ownBlock = some g → b1 ≤ g ∧ g < b2 := fun g hg => ⟨(h4.lt g hg).1, l4 g hg⟩
  have q5 : ∀ g, (sv ⟨ao5, m, cap5⟩).ownBlock = some g → b2 ≤ g ∧ g < b3 := fun g hg => ⟨(h5.lt g hg).1, l5 g hg⟩
  have hne : ∀ (s t : Sl) (lo mid hi : Nat), (∀ g, (sv s).ownBlock = some g → lo ≤ g ∧ g < mid) → (∀ g, (sv t).ownBlock = some g → mid ≤ g ∧ g < hi) → (sv s).ownBlock = none ∨ (sv s).ownBlock ≠ (sv t).ownBlock := fun s t lo mid hi h1 h2 => by
    cases hs : (sv s).ownBlock with
    | none => exact .inl rfl
    | some g =>
      right
      intro he
      have := h1 g hs
      have := h2 g he.symm
      omega
  have hne' : ∀ (s t : Sl) (lo mid hi : Nat), (∀ g, (sv s).ownBlock = some g → lo ≤ g ∧ g < mid) → (∀ g, (sv t).ownBlock = some g → mid ≤ g ∧ g < hi) → (sv t).ownBlock = none ∨ (sv t).ownBlock ≠ (sv s).ownBlock := fun s t lo mid hi h1 h2 => by
    cases hs : (sv t).ownBlock with
    | none => exact .inl rfl
    | some g =>
      right
      intro he
      have := h2 g hs
      have := h1 g he.symm
      omega
  have q3' : ∀ g, (sv ⟨ao3, n, cap3⟩).ownBlock = some g → b0 ≤ g ∧ g < b2 := fun g hg => by have := q3 g hg; omega
  refine (apart_any [⟨ao3, n, cap3⟩, ⟨ao4, n, cap4⟩, ⟨ao5, m, cap5⟩] lb w (by simp) hL ?_ ?_ ?_ b0 ?_ hB).mono ?_
  · intro i s hs
    rcases three_get hs with ⟨rfl, rfl⟩ | ⟨rfl, rfl⟩ | ⟨rfl, rfl⟩
    · exact k3 0
    · exact k4 1
    · exact k5 2
  · intro i j s t hs ht hij
    rcases three_get hs with ⟨rfl, rfl⟩ | ⟨rfl, rfl⟩ | ⟨rfl, rfl⟩ <;> rcases three_get ht with ⟨rfl, rfl⟩ | ⟨rfl, rfl⟩ | ⟨rfl, rfl⟩
    · exact absurd rfl hij
    · exact hne _ _ _ _ _ q3 q4
    · exact hne _ _ _ _ _ q3' q5
    · exact hne' _ _ _ _ _ q3 q4
    · exact absurd rfl hij
    · exact hne _ _ _ _ _ q4 q5
    · exact hne' _ _ _ _ _ q3' q5
    · exact hne' _ _ _ _ _ q4 q5
    · exact absurd rfl hij
  · intro s hs
    simp only [List.mem_cons, List.not_mem_nil, or_false] at hs
    rcases hs with rfl | rfl | rfl <;> dsimp only <;> omega
  · intro i s g hs hg
    rcases three_get hs with ⟨rfl, rfl⟩ | ⟨rfl, rfl⟩ | ⟨rfl, rfl⟩
    · exact (q3 g hg).1
    · have := q4 g hg; omega
    · have := q5 g hg; omega
  · rintro e w' ⟨he, hc⟩
    refine ⟨he, hc.mono fun b hb hbs => ?_⟩
    obtain ⟨s, hs, hg⟩ := hbs
    simp only [List.mem_cons, List.not_mem_nil, or_false] at hs
    rcases hs with rfl | rfl | rfl
    · have := q3 b hg; omega
    · have := q4 b hg; omega
    · have := q5 b hg; omega

set_option maxRecDepth 100000 in
set_option maxHeartbeats 4000000 in
theorem keeps_walk (d : Nat) (l : List Itm) (ao : Option Addr) (cap : Nat) (w : World) (h : RIts d w.heap.size w ao cap l) :
    Calls Try.prog 8 #[.slice ao l.length cap] w fun e w' => e = .returned (.bool true) ∧ Below w.heap.size w w' := by
  have hwf := h.wf
  have hlt := encV_lt l
  have hle := encV_len l
  have hde := @dec_enc l hwf
  have hE := fun (u : World) (hb : Below w.heap.size w u) => encode_any d l ao cap u u.heap.size (h.imp hb hb.size) (Nat.le_refl _)
  have hC := fun (u : World) (hb : Below w.heap.size w u) => copy_any d l ao cap u u.heap.size (h.imp hb hb.size) (Nat.le_refl _)
  obtain ⟨⟨a, xs⟩, hr⟩ : ∃ r, r = encV l := ⟨_, rfl⟩
  rw [← hr] at hE hlt hde hle
  dsimp only at hlt hde hle
  have hS1 := fun (u : World) (aox : Option Addr) (cpx : Nat) (hb : Below w.heap.size w u) (hb2 : RIts d u.heap.size u aox cpx l) => same_its d l l ao aox cap cpx d u u.heap.size (h.imp hb hb.size) hb2 (Nat.le_refl _)
  have hS2 := fun (u : World) (aox aoy : Option Addr) (cpx cpy : Nat) (hb : RIts 8 u.heap.size u aox cpx l) (hb2 : RIts d u.heap.size u aoy cpy l) => same_its 8 l l aox aoy cpx cpy d u u.heap.size hb hb2 (Nat.le_refl _)
  have hD1 := fun (u : World) (aox : Option Addr) (cpx : Nat) (hb : RBy u.heap.size u aox cpx xs) => decode_any xs hlt aox cpx u hb
  rw [sameB_true rfl] at hS1 hS2
  obtain ⟨nl, hnl⟩ : ∃ k, k = l.length := ⟨_, rfl⟩
  obtain ⟨nx, hnx⟩ : ∃ k, k = xs.length := ⟨_, rfl⟩
  rw [← hnl] at hE hC hS1 hS2 ⊢
  rw [← hnx] at hD1 hle
  clear hr
  replace hnl := Lib.hid hnl
  replace hnx := Lib.hid hnx
  replace hde := Lib.hid hde
  go_enter Try.func8, Try.ntmps8
  go_wp2_with (go_at_call 11; refine Shut.out ?k0)
  unfold Shut
  refine (known_any _).mono ?_
  rintro e w1 ⟨rfl, hb1⟩
  dsimp only
  go_wp2_with (go_at_call 20; refine Shut.out ?k1)
  unfold Shut
  refine (hC w1 hb1).mono ?_
  rintro e w2 ⟨ao2, cap2, rfl, hwas, hb12⟩
  dsimp only
  have hwas2 : RIts d w2.heap.size w2 ao2 cap2 l := hwas.rits (fun b hb => hb.2)
  have hb2 := hb1.trans (hb12.mono hb1.size)
  clear hC hwas hb12 hb1
  go_wp2_with (go_at_call 9; refine Shut.out ?k2)
  unfold Shut
  refine (hE w2 hb2).mono ?_
  intro e w3 hR3
  obtain ⟨hb23, v3, he3, hown3⟩ := hR3
  subst he3
  dsimp only at hown3 ⊢
  have hb3 := hb2.trans (hb23.mono hb2.size)
  go_wp2_with (go_at_call 9; refine Shut.out ?k3)
  unfold Shut
  refine (hE w3 hb3).mono ?_
  intro e w4 hR4
  obtain ⟨hb34, v4, he4, hown4⟩ := hR4
  subst he4
  dsimp only at hown4 ⊢
  have hb4 := hb3.trans (hb34.mono hb3.size)
  have hb24 := hb23.trans (hb34.mono hb23.size)
  clear hE
  go_wp2_with (go_at_call 16; refine Shut.out ?k4)
  unfold Shut
  refine (hS1 w4 ao2 cap2 hb4 (hwas2.imp hb24 hb24.size)).mono ?_
  rintro e w5 ⟨rfl, hb45⟩
  dsimp only
  have hb5 := hb4.trans (hb45.mono hb4.size)
  clear hS1
  by_cases ha : a = 0
  · subst ha
    have hde := hde.out rfl
    rw [hde] at hD1
    have hb35 := hb34.trans (hb45.mono hb34.size)
    have hb25 := hb23.trans (hb35.mono hb23.size)
    have o3 := hown3.below hb35 (Nat.le_refl _)
    have o4 := hown4.below hb45 (Nat.le_refl _)
    obtain ⟨ao3, cap3, rfl, _, _, _⟩ := hown3.slice
    obtain ⟨ao4, cap4, rfl, _, _, _⟩ := hown4.slice
    rw [← hnx.out] at hown3 hown4 o3 o4 ⊢
    have l3 : ∀ g, (Value.slice ao3 nx cap3).ownBlock = some g → g < w3.heap.size := fun g hg => (hown3.lt g hg).2
    have l4 : ∀ g, (Value.slice ao4 nx cap4).ownBlock = some g → g < w4.heap.size := fun g hg => (hown4.lt g hg).2
    clear hown3 hown4
    have hRoom := room_any _ xs w5 _ o3 (by rw [← hnx.out]; exact hle)
    rw [← hnx.out] at hRoom
    go_wp2_with (go_at_call 21; refine Shut.out ?k5)
    unfold Shut
    refine hRoom.mono ?_
    rintro e w6 ⟨g, cpr, rfl, o5, hb56⟩
    dsimp only
    clear hRoom
    have l5 := (o5.lt g rfl).2
    have hs6 := hb56.size
    have hby6 : RBy w6.heap.size w6 (some ⟨g, 0, none⟩) cpr xs := by
      obtain ⟨a1, c1, h1, h2⟩ := RBy.of_own (own_prefix o5)
      cases h1
      exact h2
    have hDa := hD1 w6 _ _ hby6
    go_wp2_with (go_at_call 18; refine Shut.out ?k6)
    unfold Shut
    refine hDa.mono ?_
    intro e w7 hR7
    obtain ⟨hb67, aol, capl, he7, hl7⟩ := hR7
    subst he7
    dsimp only at hl7 ⊢
    rw [← hnl.out]
    have hDb := hD1 w7 _ _ (hby6.imp hb67 hb67.size)
    clear hDa hD1
    go_wp2_with (go_at_call 18; refine Shut.out ?k7)
    unfold Shut
    refine hDb.mono ?_
    intro e w8 hR8
    obtain ⟨hb78, aom, capm, he8, hm8⟩ := hR8
    subst he8
    dsimp only at hm8 ⊢
    rw [← hnl.out]
    have hs7 := hb67.size
    have hs8 := hb78.size
    have hb68 := hb67.trans (hb78.mono hs7)
    have hb58 := hb56.trans (hb68.mono hs6)
    have hKept := kept_any g cpr _ xs w8 _ _ (by rw [← hnx.out]; exact o5.below hb68 (Nat.le_refl _)) (o3.below hb58 (Nat.le_refl _)) hlt (by rw [← hnx.out]; exact hle)
    rw [← hnx.out] at hKept
    clear hDb
    go_wp2_with (go_at_call 22; refine Shut.out ?k8)
    unfold Shut
    refine hKept.mono ?_
    rintro e w8' ⟨rfl, rfl⟩
    dsimp only
    have hVL := VL.of_items (hl7.imp (D' := fun b => w6.heap.size ≤ b ∧ b < w7.heap.size) (w' := w8') (fun b hb => ⟨hb, hb78.block b hb.2⟩))
    have hWipe := wipe_any 9 _ aol l.length capl w8' hVL (by have := h.len; omega)
    rw [← hnl.out] at hWipe
    clear hKept hVL hl7
    go_wp2_with (go_at_call 23; refine Shut.out ?k9)
    unfold Shut
    refine hWipe.mono ?_
    rintro e w9 ⟨rfl, hch9, _⟩
    dsimp only
    have hs34 := hb34.size
    have hs45 := hb45.size
    have hs23 := hb23.size
    have hs25 := hb25.size
    have hs58 := hb58.size
    have hs9 := hch9.size
    have hb28 := hb25.trans (hb58.mono hs25)
    have hc59 : Below w5.heap.size w8' w9 := hch9.below (by omega) (fun k hk h => by omega)
    have hc69 : Below w6.heap.size w8' w9 := hch9.below (by omega) (fun k hk h => by omega)
    have hb59 := hb58.trans (hc59.mono (Nat.le_refl _))
    have hb69 := hb68.trans hc69
    have hb29 := hb28.trans (hc59.mono hs25)
    have hm9 : RItsP 8 (fun b => w7.heap.size ≤ b ∧ b < w8'.heap.size) w9 aom capm l := hm8.imp (fun b hb => ⟨hb, hch9.block b hb.2 (fun h => by omega)⟩)
    have hS3 := hS2 w9 aom ao2 capm cap2 (hm9.rits (fun b hb => by omega)) (hwas2.imp hb29 hb29.size)
    clear hWipe hm8
    go_wp2_with fail
    refine hS3.mono ?_
    rintro e w10 ⟨rfl, hb910⟩
    dsimp only
    have hcpr : ¬ cpr < nx + 3 := by
      obtain ⟨_, cc, he5, hcc, _, _⟩ := o5.slice
      simp only [Value.slice.injEq] at he5
      simp [mark3] at he5 hcc
      omega
    have o3' := o3.below hb59 (Nat.le_refl _)
    have o4' := o4.below hb59 (Nat.le_refl _)
    have o5' := o5.below hb69 (Nat.le_refl _)
    go_wp2_with fail
    refine Calls.world ?_
    intro w11 hw11
    have hb1011 : Below w10.heap.size w10 w11 := by rw [hw11]; exact below_alloc1 w10 _
    have hL : Blk w11 w10.heap.size #[.slice ao3 nx cap3, .slice ao4 nx cap4, .slice (some ⟨g, 0, none⟩) (nx + 3) cpr] 23 := by rw [hw11]; exact Blk.new _ _ _
    clear hw11
    have hs10 := hb910.size
    have hs11 := hb1011.size
    have hb911 := hb910.trans (hb1011.mono hs10)
    have h5n : w5.heap.size ≤ w9.heap.size := hb59.size
    have h6n : w6.heap.size ≤ w9.heap.size := hb69.size
    have hA := apart3 (w := w11) (b0 := w2.heap.size) (b1 := w3.heap.size) (b2 := w5.heap.size) (b3 := w6.heap.size) (lb := w10.heap.size) (xs := xs) (ys := xs) (zs := xs ++ mark3) (n := nx) (m := nx + 3)
      (o3'.below hb911 (by omega)) (o4'.below hb911 (by omega)) (o5'.below hb911 (by omega)) hnx.out.symm hnx.out.symm (by rw [hnx.out]; simp [mark3]) l3 (fun g hg => Nat.lt_of_lt_of_le (l4 g hg) hs45)
      (fun g' hg => by simp [Value.ownBlock] at hg; omega) hs23 (by omega) hs6 (by omega) (by omega) (by omega) hL
    refine hA.mono ?_
    rintro e w12 ⟨rfl, hch12⟩
    dsimp only
    have hs12 := hch12.size
    have hc212 : Below w2.heap.size w11 w12 := hch12.below (by omega) (fun k hk h => by omega)
    have hb212 := hb29.trans ((hb911.mono (by omega)).trans hc212)
    have hm12 : RItsP 8 (fun b => w7.heap.size ≤ b ∧ b < w8'.heap.size) w12 aom capm l := hm9.imp (fun b hb => ⟨hb, by
      rw [hch12.block b (by omega) (fun h => by omega)]; exact hb911.block b (by omega)⟩)
    have hS4 := hS2 w12 aom ao2 capm cap2 (hm12.rits (fun b hb => by omega)) (hwas2.imp hb212 hb212.size)
    go_wp2_with fail
    refine hS4.mono ?_
    rintro e w13 ⟨rfl, hb1213⟩
    dsimp only
    go_wp2_with fail
    go_ret
    exact ⟨rfl, hb2.trans ((hb212.mono hb2.size).trans (hb1213.mono (by have := hb2.size; have := hb212.size; omega)))⟩
  · have had : ((a : Int) != 0) = true := by simpa using ha
    clear hde hD1
    go_wp2_with fail
    go_ret
    exact ⟨rfl, hb5⟩

theorem keeps_row {w : World} {d : Nat} {l : List Itm} {ao : Option Addr} {cap : Nat} (h : RIts d w.heap.size w ao cap l) (_ : l.length * 56 ≤ 140737488351232) :
    Calls Try.prog 8 #[.slice ao l.length cap] w fun e w' => e = .returned (.bool true) ∧ Below w.heap.size w w' := keeps_walk d l ao cap w h
end Go.Proofs.Ythemljefmgphkaa
