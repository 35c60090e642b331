/- Disk: the document's disk: with. -/
import Derived.Test.YtjhbeahkojippaaD2
namespace Go.Proofs.Ytjhbeahkojippaa
open Go.RowKit Go.Maps
attribute [local go_sem] Oper.semAt_some
set_option linter.unusedVariables false
set_option linter.unusedSimpArgs false

/-- Behind i files: what was laid. -/
def WithP (l : List (ByteArray × FV)) (s : ByteArray) (f : FV) (dn : Bool) (i : Nat) (r : List (ByteArray × FV)) : Prop :=
  (dn = false ∧ (∀ p ∈ l.take i, Op.bytesLess p.1.toList s.toList = true) ∧ r = l.take i) ∨ (dn = true ∧ (∃ p ∈ l.take i, Op.bytesLess p.1.toList s.toList = false) ∧ r = withL (l.take i) s f)
theorem WithP.len {l : List (ByteArray × FV)} {s : ByteArray} {f : FV} {dn : Bool} {i : Nat} {r : List (ByteArray × FV)} (h : WithP l s f dn i r) : r.length ≤ i + 1 := by
  rcases h with ⟨_, _, rfl⟩ | ⟨_, _, rfl⟩
  · rw [List.length_take]; omega
  · refine Nat.le_trans (withL_len _ _ _) ?_
    rw [List.length_take]; omega

set_option maxRecDepth 100000 in
set_option maxHeartbeats 4000000 in
theorem with_any (s : ByteArray) (f : FV) (base : Nat) (v : Value) (l : List (ByteArray × FV)) (w : World) (h : FlAt w base v l) (hl : l.length ≤ 1000000) :
    Calls Try.prog 52 #[v, .string s, f.v] w fun e w' => ∃ v', e = .returned v' ∧ FlAt w' w.heap.size v' (withL l s f) ∧ Below w.heap.size w w' := by
  obtain ⟨ii, hi, hz0, hz1, hz2⟩ := partsFl
  obtain ⟨ao, cap, rfl, hsl⟩ := h.sla (E := fun _ cs x => cs = encFl x) encFl_len (fun _ _ => rfl)
  obtain ⟨n, hn⟩ : ∃ n, n = l.length := ⟨_, rfl⟩
  rw [← hn] at hl ⊢
  obtain ⟨fl, hfl⟩ : ∃ fl, fl = f.bs.length := ⟨_, rfl⟩
  have hfv : f.v = .slice f.ao fl f.cap := by rw [hfl]; rfl
  rw [hfv]
  have hes : ([.string s, .slice f.ao fl f.cap] : List Value) = encFl (s, f) := by unfold encFl; rw [hfv]
  replace hn := Lib.hid hn
  replace hfl := Lib.hid hfl
  replace hes := Lib.hid hes
  clear h hfv
  go_enter Try.func52, Try.ntmps52
  go_wp2_with fail
  go_loopw [7, 8, 9] (fun x7 x8 x9 wr => ∃ (i : Nat) (dn : Bool) (r : List (ByteArray × FV)), i ≤ n ∧ x9 = .int .i64 i ∧ x8 = .bool dn ∧ Hid (WithP l s f dn i r) ∧ FlAt wr w.heap.size x7 r ∧ Below w.heap.size w wr) (fun x7 x8 x9 _ => n - (intOf x9).toNat)
  case atStart => exact ⟨0, false, [], Nat.zero_le _, rfl, rfl, Lib.hid (.inl ⟨rfl, fun p hp => (by cases hp), rfl⟩), OwnL.nil _ _ _ _ _, Below.refl _ _⟩
  case round =>
    obtain ⟨i, dn, r, hin, rfl, rfl, hP, hO, hbr⟩ := hrel
    by_cases hlt : i < n
    · have hil : i < l.length := by rw [← hn.out]; exact hlt
      obtain ⟨b1, o1, rfl, hb1, _⟩ := hsl.addr (by omega)
      obtain ⟨c, hce⟩ : ∃ c, l[i] = c := ⟨_, rfl⟩
      obtain ⟨cs, hcl, h6, h7⟩ := hsl.get i hil
      rw [hce] at h7
      subst h7
      have e0 : wr.cell? ⟨b1, o1 + i * 2, none⟩ = some (.string c.1) := (hbr.cell (p := ⟨b1, o1 + i * 2, none⟩) hb1).trans (h6 0 (by omega))
      have e1 : wr.cell? ⟨b1, o1 + i * 2 + 1, none⟩ = some c.2.v := (hbr.cell (p := ⟨b1, o1 + i * 2 + 1, none⟩) hb1).trans (h6 1 (by omega))
      have d1 : decide ((i : Int) < (n : Int)) = true := by simp; omega
      have hq := str_eq c.1 s
      have htk : l.take (i + 1) = l.take i ++ [c] := by rw [List.take_succ_eq_append_getElem hil, hce]
      unfold FV.v at e1
      replace hce := Lib.hid hce
      obtain ⟨m, hm⟩ : ∃ m, m = r.length := ⟨_, rfl⟩
      have hmi : m ≤ i + 1 := by rw [hm]; exact hP.out.len
      obtain ⟨a5, c5, rfl, _, _, _⟩ := hO.slice
      rw [← hm] at hO ⊢
      obtain ⟨dl, hdl⟩ : ∃ dl, dl = c.2.bs.length := ⟨_, rfl⟩
      rw [← hdl] at e1
      have hec : ([.string c.1, .slice c.2.ao dl c.2.cap] : List Value) = encFl c := by unfold encFl FV.v; rw [hdl]
      replace hec := Lib.hid hec
      have hlb1 := World.lt_of_cell e0
      dsimp only at hlb1
      have hkeep : ∀ w3, Below w.heap.size w w3 → w3.cell? ⟨b1, o1 + i * 2, none⟩ = some (.string c.1) ∧ w3.cell? ⟨b1, o1 + i * 2 + 1, none⟩ = some (.slice c.2.ao dl c.2.cap) := fun w3 hb3 => by
        have q0 := (hb3.cell (p := ⟨b1, o1 + i * 2, none⟩) hb1).trans (h6 0 (by omega))
        have q1 := (hb3.cell (p := ⟨b1, o1 + i * 2 + 1, none⟩) hb1).trans (h6 1 (by omega))
        refine ⟨q0, ?_⟩
        rw [hdl]
        exact q1
      replace hm := Lib.hid hm
      replace hdl := Lib.hid hdl
      replace hkeep := Lib.hid hkeep
      clear h6 hcl
      rcases hP.out with ⟨rfl, hall, hr⟩ | ⟨rfl, hex, hr⟩
      · cases hls : Op.bytesLess c.1.toList s.toList with
        | true =>
          have hne : c.1 ≠ s := less_ne hls
          rw [decide_eq_false hne] at hq
          have hP2 : WithP l s f false (i + 1) (r ++ [c]) := .inl ⟨rfl, fun p hp => by
            rw [htk] at hp
            rcases List.mem_append.1 hp with hp | hp
            · exact hall p hp
            · obtain rfl : p = c := by simpa using hp
              exact hls, by rw [htk, hr]⟩
          replace hP2 := Lib.hid hP2
          clear hall hr htk hP hne
          go_wp2_with (at_builtin; refine Shut.out ?kk1)
          unfold Shut
          change wpList _ _ _ _ _ (World.alloc _ (.cells ([.string c.1, .slice c.2.ao dl c.2.cap] : List Value).toArray 83))
          rw [hec.out]
          refine wpList_app1g rfl _ _ 42 rfl Try.underlying42 hi hz0 hz1 hz2 rfl (by decide) (enc := encFl) c rfl hO (by first | rfl | (show Value.slice _ _ _ = _; rfl)) (encFl_len _) (encFl_one _) (by rw [← hm.out]; omega) (by rw [← hm.out]; unfold maxLen; omega) (hbr).size (fun g3 cap3 w3 hO3 hgr3 => ?_)
          rw [← hm.out] at hO3 hgr3 ⊢
          have hb3 : Below w.heap.size w w3 := (hbr).grown hgr3.grown (hbr).size (fun k hk => ((hO).lt k hk).1)
          clear hgr3
          go_wp2_with fail
          go_roundw
          case rel => exact ⟨i + 1, false, _, by omega, by go_num, rfl, hP2, hO3, hb3⟩
          case measure => simp [intOf]; omega
        | false =>
          have hex2 : ∃ p ∈ l.take (i + 1), Op.bytesLess p.1.toList s.toList = false := ⟨c, by rw [htk]; simp, hls⟩
          have hw := withL_first (d := f) hall hls
          rw [← htk, ← hr] at hw
          replace hw := Lib.hid hw
          replace hex2 := Lib.hid hex2
          clear hall hr htk hP
          go_wp2_with (at_builtin; refine Shut.out ?kk2)
          unfold Shut
          change wpList _ _ _ _ _ (World.alloc _ (.cells ([.string s, .slice f.ao fl f.cap] : List Value).toArray 83))
          rw [hes.out]
          refine wpList_app1g rfl _ _ 42 rfl Try.underlying42 hi hz0 hz1 hz2 rfl (by decide) (enc := encFl) (s, f) rfl hO (by first | rfl | (show Value.slice _ _ _ = _; rfl)) (encFl_len _) (encFl_one _) (by rw [← hm.out]; omega) (by rw [← hm.out]; unfold maxLen; omega) (hbr).size (fun g3 cap3 w3 hO3 hgr3 => ?_)
          rw [← hm.out] at hO3 hgr3 ⊢
          have hb3 : Below w.heap.size w w3 := (hbr).grown hgr3.grown (hbr).size (fun k hk => ((hO).lt k hk).1)
          clear hgr3
          obtain ⟨e0', e1'⟩ := hkeep.out _ hb3
          clear e0 e1
          by_cases hcs : c.1 = s
          · rw [decide_eq_true hcs] at hq
            have hP2 : WithP l s f true (i + 1) (r ++ [(s, f)]) := .inr ⟨rfl, hex2.out, by rw [hw.out, if_pos hcs, List.append_nil]⟩
            replace hP2 := Lib.hid hP2
            replace hcs := Lib.hid hcs
            go_wp2_with fail
            go_roundw
            case rel => exact ⟨i + 1, true, _, by omega, by go_num, rfl, hP2, hO3, hb3⟩
            case measure => simp [intOf]; omega
          · rw [decide_eq_false hcs] at hq
            have hP2 : WithP l s f true (i + 1) (r ++ [(s, f)] ++ [c]) := .inr ⟨rfl, hex2.out, by rw [hw.out, if_neg hcs]⟩
            have hm2 : Hid (m + 1 = (r ++ [(s, f)]).length) := Lib.hid (by rw [List.length_append, ← hm.out]; rfl)
            replace hP2 := Lib.hid hP2
            replace hcs := Lib.hid hcs
            go_wp2_with (at_builtin; refine Shut.out ?kk3)
            unfold Shut
            change wpList _ _ _ _ _ (World.alloc _ (.cells ([.string c.1, .slice c.2.ao dl c.2.cap] : List Value).toArray 83))
            rw [hec.out]
            refine wpList_app1g rfl _ _ 42 rfl Try.underlying42 hi hz0 hz1 hz2 rfl (by decide) (enc := encFl) c rfl hO3 (by first | rfl | (show Value.slice _ _ _ = _; rfl)) (encFl_len _) (encFl_one _) (by rw [← hm2.out]; omega) (by rw [← hm2.out]; unfold maxLen; omega) (hb3).size (fun g4 cap4 w4 hO4 hgr4 => ?_)
            rw [← hm2.out] at hO4 hgr4 ⊢
            have hb4 : Below w.heap.size w w4 := (hb3).grown hgr4.grown (hb3).size (fun k hk => ((hO3).lt k hk).1)
            clear hgr4
            go_wp2_with fail
            go_roundw
            case rel => exact ⟨i + 1, true, _, by omega, by go_num, rfl, hP2, hO4, hb4⟩
            case measure => simp [intOf]; omega
      · have hex2 : ∃ p ∈ l.take (i + 1), Op.bytesLess p.1.toList s.toList = false := by
          obtain ⟨p, hp, hpl⟩ := hex
          exact ⟨p, by rw [htk]; exact List.mem_append_left _ hp, hpl⟩
        have hw := withL_done (d := f) (q := c) hex
        rw [← htk, ← hr] at hw
        replace hw := Lib.hid hw
        replace hex2 := Lib.hid hex2
        clear hex hr htk hP
        by_cases hcs : c.1 = s
        · rw [decide_eq_true hcs] at hq
          have hP2 : WithP l s f true (i + 1) r := .inr ⟨rfl, hex2.out, by rw [hw.out, if_pos hcs, List.append_nil]⟩
          replace hP2 := Lib.hid hP2
          replace hcs := Lib.hid hcs
          go_wp2_with fail
          go_roundw
          case rel => exact ⟨i + 1, true, _, by omega, by go_num, rfl, hP2, hO, hbr⟩
          case measure => simp [intOf]; omega
        · rw [decide_eq_false hcs] at hq
          have hP2 : WithP l s f true (i + 1) (r ++ [c]) := .inr ⟨rfl, hex2.out, by rw [hw.out, if_neg hcs]⟩
          replace hP2 := Lib.hid hP2
          replace hcs := Lib.hid hcs
          go_wp2_with (at_builtin; refine Shut.out ?kk4)
          unfold Shut
          change wpList _ _ _ _ _ (World.alloc _ (.cells ([.string c.1, .slice c.2.ao dl c.2.cap] : List Value).toArray 83))
          rw [hec.out]
          refine wpList_app1g rfl _ _ 42 rfl Try.underlying42 hi hz0 hz1 hz2 rfl (by decide) (enc := encFl) c rfl hO (by first | rfl | (show Value.slice _ _ _ = _; rfl)) (encFl_len _) (encFl_one _) (by rw [← hm.out]; omega) (by rw [← hm.out]; unfold maxLen; omega) (hbr).size (fun g3 cap3 w3 hO3 hgr3 => ?_)
          rw [← hm.out] at hO3 hgr3 ⊢
          have hb3 : Below w.heap.size w w3 := (hbr).grown hgr3.grown (hbr).size (fun k hk => ((hO).lt k hk).1)
          clear hgr3
          go_wp2_with fail
          go_roundw
          case rel => exact ⟨i + 1, true, _, by omega, by go_num, rfl, hP2, hO3, hb3⟩
          case measure => simp [intOf]; omega
    · obtain rfl : i = n := by omega
      have d9 : decide ((i : Int) < (i : Int)) = false := by simp
      have hPi := hP.out
      unfold WithP at hPi
      rw [List.take_of_length_le (by rw [hn.out]; exact Nat.le_refl _)] at hPi
      obtain ⟨m, hm⟩ : ∃ m, m = r.length := ⟨_, rfl⟩
      have hmi : m ≤ i + 1 := by rw [hm]; exact hP.out.len
      obtain ⟨a5, c5, rfl, _, _, _⟩ := hO.slice
      rw [← hm] at hO ⊢
      replace hm := Lib.hid hm
      clear hP
      rcases hPi with ⟨rfl, hall, hr⟩ | ⟨rfl, hex, hr⟩
      · have hw : r ++ [(s, f)] = withL l s f := by rw [hr]; exact (withL_less hall).symm
        replace hw := Lib.hid hw
        clear hall hr
        go_wp2_with (at_builtin; refine Shut.out ?kk5)
        unfold Shut
        change wpList _ _ _ _ _ (World.alloc _ (.cells ([.string s, .slice f.ao fl f.cap] : List Value).toArray 83))
        rw [hes.out]
        refine wpList_app1g rfl _ _ 42 rfl Try.underlying42 hi hz0 hz1 hz2 rfl (by decide) (enc := encFl) (s, f) rfl hO (by first | rfl | (show Value.slice _ _ _ = _; rfl)) (encFl_len _) (encFl_one _) (by rw [← hm.out]; omega) (by rw [← hm.out]; unfold maxLen; omega) (hbr).size (fun g3 cap3 w3 hO3 hgr3 => ?_)
        rw [← hm.out] at hO3 hgr3 ⊢
        have hb3 : Below w.heap.size w w3 := (hbr).grown hgr3.grown (hbr).size (fun k hk => ((hO).lt k hk).1)
        clear hgr3
        rw [hw.out] at hO3
        replace hO3 := Lib.hid hO3
        go_wp2_with fail
        go_ret
        exact ⟨_, rfl, hO3.out, hb3⟩
      · rw [hr] at hO
        replace hO := Lib.hid hO
        clear hex hr
        go_wp2_with fail
        go_ret
        exact ⟨_, rfl, hO.out, hbr⟩
end Go.Proofs.Ytjhbeahkojippaa
