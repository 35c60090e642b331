/- Disk: the document's disk: ready, Used. -/
import Derived.Test.YtjhbeahkojippaaD5
namespace Go.Proofs.Ytjhbeahkojippaa
open Go.RowKit Go.Maps
attribute [local go_sem] Oper.semAt_some
set_option linter.unusedVariables false
set_option linter.unusedSimpArgs false

set_option maxRecDepth 100000 in
theorem rready_any (mb : Nat) (M : DM) (s : ByteArray) (n : Int) (w : World) (hs : s.size ≤ maxLen) (c1 : w.cell? ⟨mb, 1, none⟩ = some (.bool M.fails)) :
    Calls Try.prog 51 #[.pointer (some ⟨mb, 0, none⟩), .string s, .int .i64 n] w fun e w' => e = .returned (.int .i64 (readyM M s n : Nat)) ∧ w' = w := by
  have hr := rright_any s w hs
  obtain ⟨res, hres⟩ : ∃ res, res = readyM M s n := ⟨_, rfl⟩
  rw [← hres]
  obtain ⟨rt, hrt⟩ : ∃ rt, rt = rightN s := ⟨_, rfl⟩
  rw [← hrt] at hr
  obtain ⟨fl, hfl⟩ : ∃ fl, fl = M.fails := ⟨_, rfl⟩
  rw [← hfl] at c1
  have hq : res = if fl = true then 16 else if rt = false ∨ n < 0 then 1 else 0 := by rw [hres, hfl, hrt]; rfl
  clear hres hrt hfl
  replace hq := Lib.hid hq
  cases fl with
  | true =>
    obtain rfl : res = 16 := hq.out
    clear hq
    go_enter Try.func51, Try.ntmps51
    go_wp2_with fail
    go_ret
    exact ⟨rfl, rfl⟩
  | false =>
    cases rt with
    | false =>
      obtain rfl : res = 1 := hq.out
      clear hq
      go_enter Try.func51, Try.ntmps51
      go_wp2_with fail
      refine hr.mono ?_
      rintro e w1 ⟨rfl, rfl⟩
      dsimp only
      go_wp2_with fail
      go_ret
      exact ⟨rfl, rfl⟩
    | true =>
      by_cases hn : n < 0
      · obtain rfl : res = 1 := by have := hq.out; simp [hn] at this; exact this
        have d1 : decide (n < 0) = true := by simp; omega
        clear hq
        go_enter Try.func51, Try.ntmps51
        go_wp2_with fail
        refine hr.mono ?_
        rintro e w1 ⟨rfl, rfl⟩
        dsimp only
        go_wp2_with fail
        go_ret
        exact ⟨rfl, rfl⟩
      · obtain rfl : res = 0 := by have := hq.out; simp [hn] at this; exact this
        have d1 : decide (n < 0) = false := by simp; omega
        clear hq
        go_enter Try.func51, Try.ntmps51
        go_wp2_with fail
        refine hr.mono ?_
        rintro e w1 ⟨rfl, rfl⟩
        dsimp only
        go_wp2_with fail
        go_ret
        exact ⟨rfl, rfl⟩

theorem sumL_take {l : Files} {i : Nat} (h : i < l.length) : sumL (l.take (i + 1)) = sumL (l.take i) + (l[i]).2.length := by
  unfold sumL
  rw [List.take_succ_eq_append_getElem h, List.map_append, List.sum_append]
  rfl
theorem sumL_takes (l : Files) (i : Nat) : sumL (l.take i) ≤ sumL l := by
  have : sumL l = sumL (l.take i) + sumL (l.drop i) := by
    unfold sumL
    rw [← List.sum_append, ← List.map_append, List.take_append_drop]
  omega

set_option maxRecDepth 100000 in
set_option maxHeartbeats 1000000 in
theorem rused_any {base mb : Nat} {r : RX} {M : DM} {N : Nat} (w : World) (h : Rf w base mb r M) (hok : OkM N M) (hN : N ≤ 1000000) :
    Calls Try.prog 45 #[.pointer (some ⟨mb, 0, none⟩)] w fun e w' => e = .returned (.int .i64 (sumL M.now : Nat)) ∧ w' = w := by
  have c2 : w.cell? ⟨mb, 2, none⟩ = some r.nv := h.blk.cellAt rfl
  have hO := h.now
  have hle : sumL M.now ≤ 1000000 * 1073741824 := Nat.le_trans (sumL_le (fun p hp => (hok.nown p hp).2)) (Nat.mul_le_mul_right _ (Nat.le_trans hok.ln hN))
  have hnq := h.nq
  obtain ⟨ao, cap, hv, hsl⟩ := hO.sla (E := fun _ cs x => cs = encFl x) encFl_len (fun _ _ => rfl)
  have hlen : r.now.length = M.now.length := by rw [← hnq]; simp [mapL]
  have hget : ∀ i (h1 : i < r.now.length) (h2 : i < M.now.length), (M.now[i]).2.length = (r.now[i]).2.bs.length := fun i h1 h2 => by
    have h3 : (mapL FV.bs r.now)[i]? = M.now[i]? := by rw [hnq]
    rw [List.getElem?_eq_getElem h2] at h3
    unfold mapL at h3
    rw [List.getElem?_map, List.getElem?_eq_getElem h1] at h3
    simp only [Option.map_some, Option.some.injEq] at h3
    rw [← h3]
  obtain ⟨n, hn⟩ : ∃ n, n = r.now.length := ⟨_, rfl⟩
  rw [hv, ← hn] at c2
  have hn6 : n ≤ 1000000 := by rw [hn, hlen]; exact Nat.le_trans hok.ln hN
  rw [← hn] at hlen
  replace hn := Lib.hid hn
  replace hlen := Lib.hid hlen
  replace hget := Lib.hid hget
  clear hv hO hnq h hok
  go_enter Try.func45, Try.ntmps45
  go_wp2_with fail
  go_loopw [3, 4] (fun x3 x4 wr => ∃ i : Nat, i ≤ n ∧ x4 = .int .i64 i ∧ x3 = .int .i64 ((sumL (M.now.take i) : Nat) : Int) ∧ wr = w) (fun x3 x4 _ => n - (intOf x4).toNat)
  case atStart => exact ⟨0, Nat.zero_le _, rfl, rfl, rfl⟩
  case round =>
    obtain ⟨i, hi, rfl, rfl, rfl⟩ := hrel
    by_cases hlt : i < n
    · have hil : i < r.now.length := by rw [← hn.out]; exact hlt
      have him : i < M.now.length := by rw [← hlen.out]; exact hlt
      obtain ⟨b1, o1, rfl, hb1, _⟩ := hsl.addr (by omega)
      obtain ⟨c, hce⟩ : ∃ c, r.now[i] = c := ⟨_, rfl⟩
      obtain ⟨cs, hcl, h6, h7⟩ := hsl.get i hil
      rw [hce] at h7
      subst h7
      have e1 : wr.cell? ⟨b1, o1 + i * 2 + 1, none⟩ = some c.2.v := h6 1 (by omega)
      unfold FV.v at e1
      obtain ⟨k, hk⟩ : ∃ k, k = c.2.bs.length := ⟨_, rfl⟩
      rw [← hk] at e1
      obtain ⟨q, hq⟩ : ∃ q, q = sumL (M.now.take i) := ⟨_, rfl⟩
      have hnx : sumL (M.now.take (i + 1)) = q + k := by
        rw [sumL_take him, hget.out i hil him, hce, hq, hk]
      have hqk : q + k ≤ 1073741824000000 := by rw [← hnx]; exact Nat.le_trans (sumL_takes _ _) hle
      have hq1 : q ≤ 1073741824000000 := by omega
      have hk1 : k ≤ 1073741824000000 := by omega
      rw [← hq]
      have d1 : decide ((i : Int) < (n : Int)) = true := by simp; omega
      replace hnx := Lib.hid hnx
      replace hk := Lib.hid hk
      replace hqk := Lib.hid hqk
      replace hce := Lib.hid hce
      clear h6 hcl hq
      go_wp2_with fail
      go_roundw
      case rel => exact ⟨i + 1, by omega, by go_num, by rw [hnx.out]; go_num, by first | rfl | trivial⟩
      case measure => simp [intOf]; omega
    · obtain rfl : i = n := by omega
      rw [List.take_of_length_le (by rw [← hlen.out]; exact Nat.le_refl _)]
      have d1 : decide ((i : Int) < (i : Int)) = false := by simp
      go_wp2_with fail
      go_ret
      exact ⟨rfl, rfl⟩
end Go.Proofs.Ytjhbeahkojippaa
