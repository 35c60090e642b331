/- Disk: the document's disk: with, without. -/
import Derived.Test.YtjhbeahkojippaaD1
namespace Go.Proofs.Ytjhbeahkojippaa
open Go.RowKit Go.Maps
attribute [local go_sem] Oper.semAt_some
set_option linter.unusedVariables false
set_option linter.unusedSimpArgs false

theorem infoFl : (Try.prog.info? 83).map (fun i => (i.zero, i.size, i.bytes)) = some (some (.agg #[.string ⟨#[]⟩, .slice none 0 0]), 2, 40) := by kernel_rfl
theorem partsFl : ∃ i, Try.prog.info? 83 = some i ∧ i.zero = some (.agg #[.string ⟨#[]⟩, .slice none 0 0]) ∧ i.size = 2 ∧ i.bytes = 40 := infoParts infoFl
theorem withoutL_snoc {α : Type} (l : List (ByteArray × α)) (p : ByteArray × α) (s : ByteArray) : withoutL (l ++ [p]) s = withoutL l s ++ (if p.1 = s then [] else [p]) := by
  unfold withoutL
  rw [List.filter_append]
  congr 1
  by_cases h : p.1 = s <;> simp [h]
theorem withL_less {α : Type} {s : ByteArray} {d : α} : ∀ {l : List (ByteArray × α)}, (∀ p ∈ l, Op.bytesLess p.1.toList s.toList = true) → withL l s d = l ++ [(s, d)]
  | [], _ => rfl
  | p :: r, h => by
    rw [withL, if_pos (h p (by simp)), withL_less (fun q hq => h q (by simp [hq]))]
    rfl
theorem withL_done {α : Type} {s : ByteArray} {d : α} {q : ByteArray × α} : ∀ {l : List (ByteArray × α)}, (∃ p ∈ l, Op.bytesLess p.1.toList s.toList = false) → withL (l ++ [q]) s d = withL l s d ++ (if q.1 = s then [] else [q])
  | [], h => by obtain ⟨p, hp, _⟩ := h; cases hp
  | p :: r, h => by
    rw [List.cons_append, withL, withL]
    by_cases hp : Op.bytesLess p.1.toList s.toList = true
    · rw [if_pos hp, if_pos hp, withL_done (l := r) (by
        obtain ⟨x, hx, hy⟩ := h
        rcases List.mem_cons.1 hx with rfl | hx
        · rw [hp] at hy; cases hy
        · exact ⟨x, hx, hy⟩)]
      rfl
    · rw [if_neg hp, if_neg hp, ← List.cons_append, List.filter_append]
      by_cases hq : q.1 = s <;> simp [hq]
theorem withL_first {α : Type} {s : ByteArray} {d : α} {q : ByteArray × α} {l : List (ByteArray × α)} (h : ∀ p ∈ l, Op.bytesLess p.1.toList s.toList = true) (hq : Op.bytesLess q.1.toList s.toList = false) : withL (l ++ [q]) s d = l ++ [(s, d)] ++ (if q.1 = s then [] else [q]) := by
  induction l with
  | nil =>
    rw [List.nil_append, withL, if_neg (by rw [hq]; simp)]
    by_cases h2 : q.1 = s <;> simp [h2]
  | cons p r ih =>
    rw [List.cons_append, withL, if_pos (h p (by simp)), ih (fun x hx => h x (by simp [hx]))]
    rfl

set_option maxRecDepth 100000 in
set_option maxHeartbeats 2000000 in
theorem without_any (s : ByteArray) (base : Nat) (v : Value) (l : List (ByteArray × FV)) (w : World) (h : FlAt w base v l) (hl : l.length ≤ 1000000) :
    Calls Try.prog 54 #[v, .string s] w fun e w' => ∃ v', e = .returned v' ∧ FlAt w' w.heap.size v' (withoutL l s) ∧ Below w.heap.size w w' := by
  obtain ⟨ii, hi, hz0, hz1, hz2⟩ := partsFl
  obtain ⟨ao, cap, rfl, hsl⟩ := h.sla (E := fun _ cs x => cs = encFl x) encFl_len (fun _ _ => rfl)
  obtain ⟨n, hn⟩ : ∃ n, n = l.length := ⟨_, rfl⟩
  rw [← hn] at hl ⊢
  replace hn := Lib.hid hn
  clear h
  go_enter Try.func54, Try.ntmps54
  go_wp2_with fail
  go_loopw [5, 6] (fun x5 x6 wr => ∃ i : Nat, i ≤ n ∧ x6 = .int .i64 i ∧ FlAt wr w.heap.size x5 (withoutL (l.take i) s) ∧ Below w.heap.size w wr) (fun x5 x6 _ => n - (intOf x6).toNat)
  case atStart => exact ⟨0, Nat.zero_le _, rfl, OwnL.nil _ _ _ _ _, Below.refl _ _⟩
  case round =>
    obtain ⟨i, hin, rfl, hO, hbr⟩ := hrel
    by_cases hlt : i < n
    · have hil : i < l.length := by rw [← hn.out]; exact hlt
      obtain ⟨b1, o1, rfl, hb1, _⟩ := hsl.addr (by omega)
      obtain ⟨c, hce⟩ : ∃ c, l[i] = c := ⟨_, rfl⟩
      obtain ⟨cs, hcl, h6, h7⟩ := hsl.get i hil
      rw [hce] at h7
      subst h7
      have e0 : wr.cell? ⟨b1, o1 + i * 2, none⟩ = some (.string c.1) := (hbr.cell (p := ⟨b1, o1 + i * 2, none⟩) hb1).trans (h6 0 (by omega))
      have e1 : wr.cell? ⟨b1, o1 + i * 2 + 1, none⟩ = some c.2.v := (hbr.cell (p := ⟨b1, o1 + i * 2 + 1, none⟩) hb1).trans (h6 1 (by omega))
      have d1 : decide ((i : Int) < (n : Int)) = true := by simp; omega
      have hq := str_eq c.1 s
      have htk : withoutL (l.take (i + 1)) s = withoutL (l.take i) s ++ (if c.1 = s then [] else [c]) := by
        rw [List.take_succ_eq_append_getElem hil, hce, withoutL_snoc]
      unfold FV.v at e1
      replace hce := Lib.hid hce
      obtain ⟨m, hm⟩ : ∃ m, m = (withoutL (l.take i) s).length := ⟨_, rfl⟩
      have hmi : m ≤ i := by
        rw [hm]
        refine Nat.le_trans (withoutL_len _ _) ?_
        rw [List.length_take]; omega
      obtain ⟨a5, c5, rfl, _, _, _⟩ := hO.slice
      rw [← hm] at hO ⊢
      obtain ⟨dl, hdl⟩ : ∃ dl, dl = c.2.bs.length := ⟨_, rfl⟩
      rw [← hdl] at e1
      replace hm := Lib.hid hm
      replace hdl := Lib.hid hdl
      clear h6 hcl
      by_cases hcs : c.1 = s
      · rw [decide_eq_true hcs] at hq
        rw [if_pos hcs, List.append_nil] at htk
        replace htk := Lib.hid htk
        replace hcs := Lib.hid hcs
        go_wp2_with fail
        go_roundw
        case rel => exact ⟨i + 1, by omega, by go_num, by rw [htk.out]; exact hO, hbr⟩
        case measure => simp [intOf]; omega
      · rw [decide_eq_false hcs] at hq
        rw [if_neg hcs] at htk
        replace htk := Lib.hid htk
        replace hcs := Lib.hid hcs
        go_wp2_with (at_builtin; refine Shut.out ?ka)
        unfold Shut
        have hec : ([.string c.1, .slice c.2.ao dl c.2.cap] : List Value) = encFl c := by unfold encFl FV.v; rw [hdl.out]
        change wpList _ _ _ _ _ (wr.alloc (.cells ([.string c.1, .slice c.2.ao dl c.2.cap] : List Value).toArray 83))
        rw [hec]
        refine wpList_app1g rfl _ _ 42 rfl Try.underlying42 hi hz0 hz1 hz2 rfl (by decide) (enc := encFl) c rfl hO (by first | rfl | (show Value.slice _ _ _ = _; rfl)) (encFl_len _) (encFl_one _) (by rw [← hm.out]; omega) (by rw [← hm.out]; unfold maxLen; omega) hbr.size (fun g cap3 w3 hown3 hgr3 => ?_)
        rw [← hm.out] at hown3 hgr3 ⊢
        have hb3 : Below w.heap.size w w3 := hbr.grown hgr3.grown hbr.size (fun k hk => (hO.lt k hk).1)
        clear hgr3
        go_wp2_with fail
        go_roundw
        case rel => exact ⟨i + 1, by omega, by go_num, by rw [htk.out]; exact hown3, hb3⟩
        case measure => simp [intOf]; omega
    · obtain rfl : i = n := by omega
      rw [List.take_of_length_le (by rw [hn.out]; exact Nat.le_refl _)] at hO
      have d9 : decide ((i : Int) < (i : Int)) = false := by simp
      obtain ⟨a5, c5, rfl, _, _, _⟩ := hO.slice
      replace hO := Lib.hid hO
      go_wp2_with fail
      go_ret
      exact ⟨_, rfl, hO.out, hbr⟩
end Go.Proofs.Ytjhbeahkojippaa
