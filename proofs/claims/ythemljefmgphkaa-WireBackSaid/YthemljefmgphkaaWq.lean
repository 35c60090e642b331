/- Wire: the law WireParts: plain facts, and its walk. -/
import Derived.Test.YthemljefmgphkaaWp
namespace Go.Proofs.Ythemljefmgphkaa
open Go.RowKit
set_option linter.unusedVariables false

mutual
theorem chkI_long : ∀ (x : Itm) (d c : Nat), okI x = true → (chkI x d c).2 = 0 ∨ (chkI x d c).2 = 2
  | .mk k n s l, d, c, h => by
    rw [okI, Bool.and_eq_true] at h
    rw [chkI]
    simp only [h.1, Bool.not_true, Bool.false_eq_true, if_false]
    by_cases hc : 4096 < c + 1 ∨ 8 < d
    · rw [if_pos hc]; exact .inr rfl
    · rw [if_neg hc]; exact chkL_long l _ _ h.2
theorem chkL_long : ∀ (l : List Itm) (d c : Nat), okL l = true → (chkL l d c).2 = 0 ∨ (chkL l d c).2 = 2
  | [], d, c, h => by rw [chkL]; exact .inl rfl
  | x :: r, d, c, h => by
    rw [okL, Bool.and_eq_true] at h
    rw [chkL]
    by_cases he : (chkI x d c).2 = 0
    · rw [if_pos he]; exact chkL_long r _ _ h.2
    · rw [if_neg he]; exact chkI_long x d c h.1
end
theorem encV_ok {l : List Itm} (h : (encV l).1 = 0) : encV l = (0, encL l) ∧ okL l = true := by
  unfold encV at h ⊢
  by_cases h1 : (chkL l 1 0).2 = 0
  · rw [if_neg (by simpa using h1)] at h ⊢
    by_cases h2 : 65536 < sizL l ∨ 65536 < (encL l).length
    · rw [if_pos h2] at h; simp at h
    · rw [if_neg h2]; exact ⟨rfl, (chkL_ok l 1 0 h1).1⟩
  · rw [if_pos h1] at h; exact absurd h h1
theorem okL_append (a b : List Itm) : okL (a ++ b) = (okL a && okL b) := by
  induction a with
  | nil => rw [List.nil_append, okL, Bool.true_and]
  | cons x r ih => rw [List.cons_append, okL, okL, ih, Bool.and_assoc]
def pairL (n : Int) (s : ByteArray) : List Itm := [.mk 0 n ⟨#[]⟩ [], .mk 1 0 s []]
theorem pair_ok (n : Int) (s : ByteArray) : okL (pairL n s) = true := by
  unfold pairL
  simp [okL, okI, formI, ByteArray.size]
theorem pair_chk (n : Int) (s : ByteArray) : (chkL (pairL n s) 1 0).2 = 0 := by
  unfold pairL
  simp [chkL, chkI, formI, ByteArray.size]
theorem pair_long {n : Int} {s : ByteArray} (h : (encV (pairL n s)).1 ≠ 0) : 60000 < s.size := by
  unfold encV at h
  rw [if_neg (by simp [pair_chk])] at h
  by_cases h2 : 65536 < sizL (pairL n s) ∨ 65536 < (encL (pairL n s)).length
  · have h1 := encL_le (pairL n s)
    have h3 : cntL (pairL n s) = 2 := by simp [pairL, cntL, cntI]
    have h4 : sizL (pairL n s) = s.size := by
      show 0 + 0 + (s.size + 0 + 0) = s.size
      omega
    omega
  · rw [if_neg h2] at h; simp at h
theorem parts_long {n : Int} {s : ByteArray} {l : List Itm} (h2 : (encV l).1 = 0) : (encV (pairL n s ++ l)).1 = 0 ∨ (encV (pairL n s ++ l)).1 = 2 := by
  have hok : okL (pairL n s ++ l) = true := by rw [okL_append, pair_ok, (encV_ok h2).2]; rfl
  unfold encV
  rcases chkL_long (pairL n s ++ l) 1 0 hok with h | h
  · rw [if_neg (by simp [h])]
    split
    · exact .inr rfl
    · exact .inl rfl
  · rw [if_pos (by simp [h])]; exact .inr h
theorem parts_same {n : Int} {s : ByteArray} {l : List Itm} (h1 : (encV (pairL n s)).1 = 0) (h2 : (encV l).1 = 0) (h3 : (encV (pairL n s ++ l)).1 = 0) : (encV (pairL n s ++ l)).2 = (encV (pairL n s)).2 ++ (encV l).2 := by
  rw [(encV_ok h1).1, (encV_ok h2).1, (encV_ok h3).1]
  exact encL_append _ _

theorem encV_len (l : List Itm) : (encV l).2.length ≤ 65536 := by
  unfold encV
  split
  · simp
  · split
    · simp
    · show (encL l).length ≤ 65536
      omega

/-- A row made here is a row of the call's own. -/
theorem OwnL.of_blk {α : Type} {enc : α → List Value} {w : World} {base g cap size : Nat} {e : TypeId} {cells : Array Value} {xs : List α} (h : Blk w g cells e) (hb : base ≤ g) (h1 : xs.length ≤ cap) (h2 : cap ≤ maxLen) (h3 : cells.size = cap * size)
    (h4 : cells.toList.take (xs.length * size) = xs.flatMap enc) (hk : (xs.flatMap enc).length = xs.length * size) : OwnL enc w base e size (.slice (some ⟨g, 0, none⟩) xs.length cap) xs :=
  ⟨hk, .inr ⟨g, cap, cells, rfl, hb, h, h1, h2, h3, h4⟩⟩

theorem blk4 {w : World} {b : Nat} {c0 c1 c2 c3 : Value} {T : TypeId} (h : Blk w b #[c0, c1, c2, c3] T) : w.cell? ⟨b, 0, none⟩ = some c0 ∧ w.cell? ⟨b, 1, none⟩ = some c1 ∧ w.cell? ⟨b, 2, none⟩ = some c2 ∧ w.cell? ⟨b, 3, none⟩ = some c3 :=
  ⟨h.cellAt rfl, h.cellAt rfl, h.cellAt rfl, h.cellAt rfl⟩
theorem blk_new1 (w : World) (o : Obj) (cs : Array Value) (T : TypeId) : Blk ((w.alloc o).alloc (.cells cs T)) (w.heap.size + 1) cs T := by
  have := Blk.new (w.alloc o) cs T
  simpa using this
theorem blk_new2 (w : World) (o o2 : Obj) (cs : Array Value) (T : TypeId) : Blk (((w.alloc o).alloc o2).alloc (.cells cs T)) (w.heap.size + 1 + 1) cs T := by
  have := Blk.new ((w.alloc o).alloc o2) cs T
  simpa using this
theorem below_alloc1 (w : World) (o : Obj) : Below w.heap.size w (w.alloc o) := Below.alloc (Below.refl _ _) (Nat.le_refl _) _
theorem below_alloc2 (w : World) (o o2 : Obj) : Below w.heap.size w ((w.alloc o).alloc o2) := Below.alloc (below_alloc1 w o) (by simp) _
theorem below_alloc3 (w : World) (o o2 o3 : Obj) : Below w.heap.size w (((w.alloc o).alloc o2).alloc o3) := Below.alloc (below_alloc2 w o o2) (by simp; omega) _
theorem Calls.world {P : Program} {f : FuncId} {args : Array Value} {W : World} {Q : Ending → World → Prop} (h : ∀ w1, w1 = W → Calls P f args w1 Q) : Calls P f args W Q := h _ rfl
theorem wpList_world {P : Program} {ops : Array Oper} {r : List Oper} {a : Act} {W : World} {Q : Exit → Act → World → Prop} (h : ∀ w1, w1 = W → wpList P ops Q r a w1) : wpList P ops Q r a W := h _ rfl
theorem RIt.one0 {d B : Nat} {w : World} {n : Int} (h : (Lit.int .i64 n).wf = true) : RIt (d + 1) B w (encP ⟨.mk 0 n ⟨#[]⟩ [], none, 0⟩) (.mk 0 n ⟨#[]⟩ []) := RIt.mk' rfl h (by decide) (RIts.nil _ _ _)
theorem RIt.one1 {d B : Nat} {w : World} {s : ByteArray} (h : s.size ≤ 140737488351232) : RIt (d + 1) B w (encP ⟨.mk 1 0 s [], none, 0⟩) (.mk 1 0 s []) := RIt.mk' rfl rfl h (RIts.nil _ _ _)
theorem RIt.one2 {d B : Nat} {w : World} {ao : Option Addr} {cap : Nat} {l : List Itm} (h : RIts d B w ao cap l) : RIt (d + 1) B w (encP ⟨.mk 2 0 ⟨#[]⟩ l, ao, cap⟩) (.mk 2 0 ⟨#[]⟩ l) := RIt.mk' rfl rfl (by decide) h

def pairP (n : Int) (s : ByteArray) : List PIt := [⟨.mk 0 n ⟨#[]⟩ [], none, 0⟩, ⟨.mk 1 0 s [], none, 0⟩]
theorem pairP_map (n : Int) (s : ByteArray) : (pairP n s).map (·.x) = pairL n s := rfl
theorem pairP_rit {n : Int} {s : ByteArray} (hn : (Lit.int .i64 n).wf = true) (hs : s.size ≤ 140737488351232) {d B : Nat} {w : World} : ∀ p ∈ pairP n s, RIt (d + 1) B w (encP p) p.x := by
  intro p hp
  simp only [pairP, List.mem_cons, List.not_mem_nil, or_false] at hp
  rcases hp with rfl | rfl
  · exact RIt.one0 hn
  · exact RIt.one1 hs

set_option maxRecDepth 100000 in
set_option maxHeartbeats 4000000 in
theorem parts_walk (n : Int) (s : ByteArray) (d : Nat) (l : List Itm) (ao : Option Addr) (cap : Nat) (w : World) (h : RIts d w.heap.size w ao cap l) (hlen : l.length * 56 ≤ 140737488351232) (hn : (Lit.int .i64 n).wf = true) (hs : s.size ≤ 140737488351232) :
    Calls Try.prog 4 #[.int .i64 n, .string s, .slice ao l.length cap] w fun e w' => e = .returned (.bool true) ∧ Below w.heap.size w w' := by
  go_enter Try.func4, Try.ntmps4
  go_wp2_with (go_at_call 13; refine (int_any _ _).mono ?k1)
  case k1 =>
  rintro e w1 ⟨rfl, hb1⟩
  dsimp only
  go_wp2_with (go_at_call 14; refine (text_any _ _).mono ?k2)
  case k2 =>
  rintro e w2 ⟨rfl, hb2⟩
  dsimp only
  replace hb2 := hb1.trans (hb2.mono hb1.size)
  go_wp2_with (go_at_call 15; refine (list_any d l ao cap _ _ (h.imp hb2 hb2.size) (Nat.le_refl _)).mono ?k3)
  case k3 =>
  rintro e w3 ⟨ao3, cap3, rfl, hl3, hb3⟩
  dsimp only
  replace hb3 := hb2.trans (hb3.mono hb2.size)
  clear hb1 hb2
  obtain ⟨p, hp⟩ : ∃ p, p = w3.heap.size := ⟨_, rfl⟩
  have hp3 := hb3.size
  go_wp2_with (go_at_call 11; refine Shut.out ?k4)
  unfold Shut
  refine Calls.world ?_
  intro w4 hw4
  have hb34 : Below w3.heap.size w3 w4 := by rw [hw4]; exact below_alloc3 _ _ _ _
  have r7 : Blk w4 p #[.int .i64 0, .int .i64 n, .string ⟨#[]⟩, .slice none 0 0] 33 := by rw [hw4, hp]; exact ((Blk.new _ _ _).alloc _).alloc _
  have r8 : Blk w4 (p + 1) #[.int .i64 1, .int .i64 0, .string s, .slice none 0 0] 33 := by rw [hw4, hp]; exact (blk_new1 _ _ _ _).alloc _
  have r9 : Blk w4 (p + 1 + 1) #[.int .i64 2, .int .i64 0, .string ⟨#[]⟩, .slice ao3 l.length cap3] 33 := by rw [hw4, hp]; exact blk_new2 _ _ _ _ _
  have hl4 := hl3.imp hb34 hb34.size
  have hb4 := hb3.trans (hb34.mono hb3.size)
  rw [← hp]
  clear hw4 hl3 hb3 hb34
  replace hp := Lib.hid hp
  refine (known_any _).mono ?_
  rintro e w5 ⟨rfl, hb5⟩
  dsimp only
  replace r7 := r7.below hb5 r7.lt
  replace r8 := r8.below hb5 r8.lt
  replace r9 := r9.below hb5 r9.lt
  replace hl5 := hl4.imp hb5 hb5.size
  replace hb5 := hb4.trans (hb5.mono hb4.size)
  obtain ⟨q0, q1, q2, q3⟩ := blk4 r7
  obtain ⟨q4, q5, q6, q7⟩ := blk4 r8
  obtain ⟨q8, q9, q10, q11⟩ := blk4 r9
  go_wp2_with (go_at_call 16; refine Shut.out ?k5)
  unfold Shut
  refine Calls.world ?_
  intro w6 hw6
  have hb56 : Below w5.heap.size w5 w6 := by rw [hw6]; exact below_alloc2 _ _ _
  have hb6 := hb5.trans (hb56.mono hb5.size)
  have hm1 : RIts (d + 1) w6.heap.size w6 (some ⟨w5.heap.size, 0, none⟩) 3 [.mk 0 n ⟨#[]⟩ [], .mk 1 0 s [], .mk 2 0 ⟨#[]⟩ l] := by
    refine RIts.of_cells (ps := [⟨.mk 0 n ⟨#[]⟩ [], none, 0⟩, ⟨.mk 1 0 s [], none, 0⟩, ⟨.mk 2 0 ⟨#[]⟩ l, ao3, cap3⟩]) (by rw [hw6]; exact (Blk.new _ _ _).alloc _) rfl ?_ (by simp)
    intro p hp
    simp only [List.mem_cons, List.not_mem_nil, or_false] at hp
    rcases hp with rfl | rfl | rfl
    · exact RIt.one0 hn
    · exact RIt.one1 hs
    · exact RIt.one2 (hl5.imp hb56 hb56.size)
  have hm2 : RIts (d + 1) w6.heap.size w6 (some ⟨w5.heap.size + 1, 0, none⟩) 3 [.mk 0 n ⟨#[]⟩ [], .mk 1 0 s [], .mk 2 0 ⟨#[]⟩ l] := by
    refine RIts.of_cells (ps := [⟨.mk 0 n ⟨#[]⟩ [], none, 0⟩, ⟨.mk 1 0 s [], none, 0⟩, ⟨.mk 2 0 ⟨#[]⟩ l, ao, cap⟩]) (by rw [hw6]; exact blk_new1 _ _ _ _) rfl ?_ (by simp)
    intro p hp
    simp only [List.mem_cons, List.not_mem_nil, or_false] at hp
    rcases hp with rfl | rfl | rfl
    · exact RIt.one0 hn
    · exact RIt.one1 hs
    · exact RIt.one2 (h.imp hb6 hb6.size)
  replace r7 := r7.below hb56 r7.lt
  replace r8 := r8.below hb56 r8.lt
  replace r9 := r9.below hb56 r9.lt
  clear hw6 q0 q1 q2 q3 q4 q5 q6 q7 q8 q9 q10 q11 hl4 hl5 hb4 hb5 hb56
  refine (same_its _ _ _ _ _ _ _ _ _ _ hm1 hm2 (Nat.le_refl _)).mono ?_
  rw [sameB_true rfl]
  rintro e w7 ⟨rfl, hb7⟩
  dsimp only
  clear hm1 hm2
  replace r7 := r7.below hb7 r7.lt
  replace r8 := r8.below hb7 r8.lt
  replace r9 := r9.below hb7 r9.lt
  replace hb7 := hb6.trans (hb7.mono hb6.size)
  obtain ⟨q0, q1, q2, q3⟩ := blk4 r7
  obtain ⟨q4, q5, q6, q7⟩ := blk4 r8
  obtain ⟨q8, q9, q10, q11⟩ := blk4 r9
  clear hb6
  go_wp2_with (go_at_call 9; refine Shut.out ?k6)
  unfold Shut
  refine Calls.world ?_
  intro w8 hw8
  have hb78 : Below w7.heap.size w7 w8 := by rw [hw8]; exact below_alloc1 _ _
  have hb8 := hb7.trans (hb78.mono hb7.size)
  have hm1 : RIts (d + 1) w8.heap.size w8 (some ⟨w7.heap.size, 0, none⟩) 2 (pairL n s) := by
    refine RIts.of_cells (ps := [⟨.mk 0 n ⟨#[]⟩ [], none, 0⟩, ⟨.mk 1 0 s [], none, 0⟩]) (by rw [hw8]; exact Blk.new _ _ _) rfl ?_ (by simp)
    intro p hp
    simp only [List.mem_cons, List.not_mem_nil, or_false] at hp
    rcases hp with rfl | rfl
    · exact RIt.one0 hn
    · exact RIt.one1 hs
  replace r7 := r7.below hb78 r7.lt
  replace r8 := r8.below hb78 r8.lt
  clear hw8 q0 q1 q2 q3 q4 q5 q6 q7 q8 q9 q10 q11 r9 hb7 hb78
  have hA := @pair_long n s
  have hC := @parts_long n s l
  have hS := @parts_same n s l
  have t1 := encV_lt (pairL n s)
  have t2 := encV_lt l
  have t3 := encV_lt (pairL n s ++ l)
  have n1 := encV_len (pairL n s)
  have n2 := encV_len l
  have hE1 := encode_any _ (pairL n s) _ _ _ _ hm1 (Nat.le_refl _)
  have hE2 := fun (u : World) (hb : Below w.heap.size w u) => encode_any d l ao cap u u.heap.size (h.imp hb hb.size) (Nat.le_refl _)
  have hE3 := fun (d : Nat) (u : World) ao cap (hm : RIts d u.heap.size u ao cap (pairL n s ++ l)) => encode_any d (pairL n s ++ l) ao cap u u.heap.size hm (Nat.le_refl _)
  obtain ⟨⟨a, xs⟩, h1⟩ : ∃ r, r = encV (pairL n s) := ⟨_, rfl⟩
  obtain ⟨⟨b, ys⟩, h2⟩ : ∃ r, r = encV l := ⟨_, rfl⟩
  obtain ⟨⟨c, zs⟩, h3⟩ : ∃ r, r = encV (pairL n s ++ l) := ⟨_, rfl⟩
  rw [← h1] at hE1 hA hS t1 n1
  rw [← h2] at hE2 hC hS t2 n2
  rw [← h3] at hE3 hC hS t3
  dsimp only at hA hC hS t1 t2 t3 n1 n2
  replace hA := Lib.hid hA
  replace hC := Lib.hid hC
  replace hS := Lib.hid hS
  clear h1 h2 h3
  refine hE1.mono ?_
  rintro e w9 ⟨hb9, v9, rfl, hown9⟩
  dsimp only at hown9 ⊢
  replace r7 := r7.below hb9 r7.lt
  replace r8 := r8.below hb9 r8.lt
  replace hb9 := hb8.trans (hb9.mono hb8.size)
  replace hown9 := hown9.base_le hb8.size
  clear hE1 hb8 hm1
  go_wp2_with (go_at_call 9; refine Shut.out ?k7)
  unfold Shut
  refine (hE2 _ hb9).mono ?_
  rintro e w10 ⟨hb10, v10, rfl, hown10⟩
  dsimp only at hown10 ⊢
  replace r7 := r7.below hb10 r7.lt
  replace r8 := r8.below hb10 r8.lt
  replace hown9 := hown9.below hb10 (Nat.le_refl _)
  replace hb10 := hb9.trans (hb10.mono hb9.size)
  replace hown10 := hown10.base_le hb9.size
  clear hE2 hb9
  obtain ⟨q0, q1, q2, q3⟩ := blk4 r7
  obtain ⟨q4, q5, q6, q7⟩ := blk4 r8
  go_wp2_with (at_builtin; refine Shut.out ?k8)
  unfold Shut
  refine wpList_world ?_
  intro w11 hw11
  have hb1011 : Below w10.heap.size w10 w11 := by rw [hw11]; exact below_alloc1 _ _
  have hb11 := hb10.trans (hb1011.mono hb10.size)
  have hk11 : Blk w11 w10.heap.size #[.int .i64 0, .int .i64 n, .string ⟨#[]⟩, .slice none 0 0, .int .i64 1, .int .i64 0, .string s, .slice none 0 0] 33 := by rw [hw11]; exact Blk.new _ _ _
  have hsz10 := hb10.size
  have hsz11 := hb11.size
  have hown11 : OwnL encP w11 w.heap.size 33 4 (.slice (some ⟨w10.heap.size, 0, none⟩) 2 2) (pairP n s) :=
    OwnL.of_blk (cap := 2) (xs := pairP n s) hk11 hsz10 (by simp [pairP]) (by decide) rfl rfl rfl
  obtain ⟨ps, hpl, hps, hsla0⟩ := h.pairs
  have hsla : SlA w.heap.size 4 (fun _ cs p => cs = encP p) w11 ao cap ps := hsla0.imp hb11 (Nat.le_refl _) (fun _ _ _ h => h)
  have hpn : l.length = ps.length := by rw [← hpl, List.length_map]
  clear hw11 q0 q1 q2 q3 q4 q5 q6 q7 r7 r8
  obtain ⟨i0, hi, hz0, hz1, hz2⟩ := info_parts infoI
  have hmul : (pairP n s).length + ps.length = l.length + 2 := by simp [pairP]; omega
  refine wpList_app_sla (base := w.heap.size) _ rfl _ _ 22 rfl Try.underlying22 hi hz0 hz1 hz2 rfl (by decide) rfl hown11 (by show Value.slice ao l.length cap = _; rw [hpn]) hsla encP_len encP_one (by rw [hmul]; unfold maxLen; omega) (by rw [hmul]; omega) hsz11 (fun v12 w12 hown12 hgr12 => ?_)
  have hb1012 : Below w10.heap.size w10 w12 := hb1011.grown hgr12 hb1011.size (fun k hk => by
    have : some w10.heap.size = some k := hk
    cases this
    exact Nat.le_refl _)
  have hb12 := hb10.trans (hb1012.mono hsz10)
  replace hown9 := hown9.below hb1012 (Nat.le_refl _)
  replace hown10 := hown10.below hb1012 (Nat.le_refl _)
  have hlen2 : (pairP n s ++ ps).length * 56 ≤ 140737488355328 := by rw [List.length_append, hmul]; omega
  obtain ⟨ao12, cap12, rfl, hl12⟩ := RIts.of_own (d := d + 1) hown12 (fun p hp => by
    rcases List.mem_append.1 hp with hp | hp
    · exact pairP_rit hn hs p hp
    · exact ((hps p hp).imp hb12 hb12.size).up (Nat.le_succ _)) hlen2
  have hl12n : (pairP n s ++ ps).length = (pairL n s ++ l).length := by rw [List.length_append, List.length_append, hpn]; rfl
  rw [List.map_append, pairP_map, hpl] at hl12
  rw [hl12n]
  clear hgr12 hown12 hk11 hown11 hsla hsla0 hps hmul hlen2 hb1012 hb1011 hb11 hb10 hsz11 hi hz0 hz1 hz2 hpl hpn
  obtain ⟨n12, hn12⟩ : ∃ k, k = (pairL n s ++ l).length := ⟨_, rfl⟩
  have hE := hE3 _ w12 ao12 cap12 hl12
  rw [← hn12] at hE ⊢
  clear hE3 hl12n hl12
  replace hn12 := Lib.hid hn12
  go_wp2_with (go_at_call 9; refine Shut.out ?k9)
  unfold Shut
  refine hE.mono ?_
  rintro e w13 ⟨hb13, v13, rfl, hown13⟩
  dsimp only at hown13 ⊢
  replace hown9 := hown9.below hb13 (Nat.le_refl _)
  replace hown10 := hown10.below hb13 (Nat.le_refl _)
  replace hown13 := hown13.base_le hb12.size
  replace hb13 := hb12.trans (hb13.mono hb12.size)
  clear hE hb12
  by_cases ha : a = 0
  · by_cases hb : b = 0
    · by_cases hc : c = 0
      · have hz := hS.out ha hb hc
        subst ha hb hc hz
        clear hA hC hS
        obtain ⟨i0, hi, hz0, hz1, hz2⟩ := info_parts infoB
        go_wp2_with (at_builtin; refine Shut.out ?k10)
        unfold Shut
        refine wpList_world ?_
        intro w14 hw14
        have hb1314 : Below w13.heap.size w13 w14 := by rw [hw14]; exact below_alloc1 _ _
        have hsz13 := hb13.size
        have hsz14 := hb1314.size
        have hown14 : OwnL encB w14 w13.heap.size 5 1 (.slice (some ⟨w13.heap.size, 0, none⟩) 0 0) [] :=
          OwnL.of_blk (cap := 0) (xs := []) (cells := #[]) (by rw [hw14]; exact Blk.new _ _ _) (Nat.le_refl _) (by simp) (by decide) rfl rfl rfl
        have hown9b := hown9.below hb1314 (Nat.le_refl _)
        clear hw14
        refine wpList_app_rows _ rfl _ _ 23 rfl Try.underlying23 hi hz0 hz1 hz2 rfl (by decide) (enc := encB) rfl hown14 rfl hown9b encB_len encB_one (by unfold maxLen; simp; omega) (by simp; omega) hsz14 (fun v15 w15 hown15 hgr15 => ?_)
        have hb1315 : Below w13.heap.size w13 w15 := hb1314.grown hgr15 hsz14 (fun k hk => by
          have : some w13.heap.size = some k := hk
          cases this
          exact Nat.le_refl _)
        have hsz15 := hb1315.size
        rw [List.nil_append] at hown15
        have hown10b := hown10.below hb1315 (Nat.le_refl _)
        clear hgr15 hb1314 hown14 hown9b hsz14
        go_wp2_with (at_builtin; refine Shut.out ?k11)
        unfold Shut
        refine wpList_app_rows _ rfl _ _ 23 rfl Try.underlying23 hi hz0 hz1 hz2 rfl (by decide) (enc := encB) rfl hown15 rfl hown10b encB_len encB_one (by unfold maxLen; omega) (by omega) hsz15 (fun v16 w16 hown16 hgr16 => ?_)
        have hb1316 : Below w13.heap.size w13 w16 := hb1315.grown hgr16 hsz15 (fun k hk => (hown15.lt k hk).1)
        have hown13b := hown13.below hb1316 (Nat.le_refl _)
        have hb16 := hb13.trans (hb1316.mono hsz13)
        clear hgr16 hb1315 hown10b hown10 hown9 hown13 hown15 hi hz0 hz1 hz2
        go_wp2_with (go_at_call 12; refine Shut.out ?k12)
        unfold Shut
        refine (same_any _ hown13b hown16 t3 t3).mono ?_
        rintro e w17 ⟨rfl, rfl⟩
        rw [decide_eq_true rfl]
        dsimp only
        go_wp2_with fail
        go_ret
        exact ⟨rfl, hb16⟩
      · have hc2 : c = 2 := by rcases hC.out hb with h | h <;> omega
        subst ha hb hc2
        clear hA hC hS
        go_wp2_with fail
        go_ret
        exact ⟨by simp, hb13⟩
    · have hb2 : ((b : Int) != 0) = true := by simpa using hb
      subst ha
      clear hA hC hS
      go_wp2_with fail
      go_ret
      exact ⟨by simp, hb13⟩
  · have ha2 : ((a : Int) != 0) = true := by simpa using ha
    have hs2 : decide ((60000 : Int) < (s.size : Int)) = true := by have := hA.out ha; simp; omega
    clear hA hC hS
    go_wp2_with fail
    go_ret
    exact ⟨by simp, hb13⟩
theorem parts_row (n : Int) (hn : (Lit.int .i64 n).wf = true) (s : ByteArray) (_ : s.size ≤ maxLen) (hs : s.size ≤ 140737488351232) {d : Nat} {l : List Itm} {ao : Option Addr} {cap : Nat} {w : World} (h : RIts d w.heap.size w ao cap l) (hl : l.length * 56 ≤ 140737488351232) :
    Calls Try.prog 4 #[.int .i64 n, .string s, .slice ao l.length cap] w fun e w' => e = .returned (.bool true) ∧ Below w.heap.size w w' := parts_walk n s d l ao cap w h hl hn hs
end Go.Proofs.Ythemljefmgphkaa
