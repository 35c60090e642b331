/- Disk: the changes with their picks, one after the other. -/
import Derived.RangeFuncNested
import Derived.RangeFuncBound
import Derived.RangeFuncCalls
import Derived.RangeFuncLeaves
import Derived.RangeFuncFrom
import Derived.OwnWalkIn
import Derived.TacticsInMore
import Derived.LoopNIn
import Derived.LoopIn
import Derived.Test.YtjgiphoolfhlmaaDj
import Derived.Test.YtjgiphoolfhlmaaL10
import Derived.Test.YtjgiphoolfhlmaaL1
namespace Go.Proofs.Ytjgiphoolfhlmaa
open Go.RowKit Go.Maps
attribute [local go_sem] Oper.semAt_some
set_option linter.unusedVariables false
set_option linter.unusedSimpArgs false

/-- The changes, each with its pick. -/
def prs (picks : List Int) : Nat → List CH → List (CH × Nat)
  | _, [] => []
  | i, c :: r => (c, pickM picks i) :: prs picks (i + 1) r
theorem prs_len (picks : List Int) : ∀ (i : Nat) (l : List CH), (prs picks i l).length = l.length
  | _, [] => rfl
  | i, c :: r => by unfold prs; rw [List.length_cons, List.length_cons, prs_len picks (i + 1) r]
theorem prs_get (picks : List Int) : ∀ (i : Nat) (l : List CH) (k : Nat), (prs picks i l)[k]? = l[k]?.map (fun c => (c, pickM picks (i + k)))
  | _, [], k => by simp [prs]
  | i, c :: r, 0 => by simp [prs]
  | i, c :: r, k + 1 => by
    unfold prs
    rw [List.getElem?_cons_succ, List.getElem?_cons_succ, prs_get picks (i + 1) r k, show i + 1 + k = i + (k + 1) by omega]
/-- What came down. -/
def foldF (S : Files) (l : List (CH × Nat)) : Files := l.foldl (fun S y => fallM S y.1.abs y.2) S
theorem foldF_prs (picks : List Int) : ∀ (i : Nat) (l : List CH) (S : Files), foldF S (prs picks i l) = fallsM picks i (l.map CH.abs) S
  | _, [], S => rfl
  | i, c :: r, S => by
    show foldF (fallM S c.abs (pickM picks i)) (prs picks (i + 1) r) = _
    rw [foldF_prs picks (i + 1) r]
    rfl
theorem foldF_snoc (S : Files) (l : List (CH × Nat)) (y : CH × Nat) : foldF S (l ++ [y]) = fallM (foldF S l) y.1.abs y.2 := by
  unfold foldF
  rw [List.foldl_append]
  rfl

set_option maxRecDepth 100000 in
set_option maxHeartbeats 4000000 in
theorem all1_in {α : Type} (f : α → CH × Nat) (F : Fence) (n : Nat) (h8 : F.fn 46) (hro : F.round = none) (hn : 1 ≤ n) (l bd bp b base : Nat) (cv : Value) (chs : List CH) (picks : List Int) (pa : Option Addr) (pc : Nat) (zs : List α)
    (hz : zs.map f = prs picks 0 chs) (hlen : chs.length ≤ 1000000) (J Jx : List α → World → Prop) (W : World) (hJ : AbidesFrom W.heap.size J)
    (hY : ∀ pre x W1, J pre W1 → pre.length < zs.length → YieldAt F (n - 1) Try.prog l #[.agg #[.int .i64 (f x).1.kind, .string (f x).1.name, .int .i64 (f x).1.pos, (f x).1.d.v], .int .i64 (f x).2] W1 fun e W' =>
      (e = .returned (.bool true) ∧ J (pre ++ [x]) W' ∧ KpA W1 W') ∨ (e = .returned (.bool false) ∧ Jx (pre ++ [x]) W'))
    (hbd : W.cell? ⟨bd, 0, none⟩ = some (.pointer (some ⟨b, 0, none⟩))) (hbp : W.cell? ⟨bp, 0, none⟩ = some (.slice pa picks.length pc)) (hc4 : W.cell? ⟨b, 4, none⟩ = some cv) (hrow : OwnL encC W base 73 4 cv chs) (hpk : SlA W.heap.size 1 (RI .i64) W pa pc picks) (h0 : J [] W) :
    CallsIn F n Try.prog 46 #[.func (.yield l) #[] #[], .pointer (some ⟨bd, 0, none⟩), .pointer (some ⟨bp, 0, none⟩)] W fun e W' => (∃ v, e = .returned v) ∧
      (J zs W' ∨ (∃ pre, pre <+: zs ∧ Jx pre W')) := by
  obtain ⟨ao, cap, rfl, hsl⟩ := hrow.sla (E := fun _ cs x => cs = encC x) encC_len (fun _ _ => rfl)
  have hzl : zs.length = chs.length := by rw [← List.length_map (f := f), hz, prs_len]
  have hplen := hpk.len
  obtain ⟨m, hm⟩ : ∃ m, m = chs.length := ⟨_, rfl⟩
  obtain ⟨pl, hpl⟩ : ∃ pl, pl = picks.length := ⟨_, rfl⟩
  rw [← hm] at hlen hc4 hzl
  rw [← hpl] at hbp hplen
  have hzk : ∀ k (h : k < zs.length) (h2 : k < chs.length), f zs[k] = (chs[k], pickM picks k) := fun k h h2 => by
    have h3 : (zs.map f)[k]? = (prs picks 0 chs)[k]? := by rw [hz]
    rw [prs_get, List.getElem?_map, List.getElem?_eq_getElem h, List.getElem?_eq_getElem h2] at h3
    simpa using h3
  replace hm := Lib.hid hm
  replace hpl := Lib.hid hpl
  replace hzl := Lib.hid hzl
  replace hzk := Lib.hid hzk
  replace hY := Lib.hid hY
  replace hJ := Lib.hid hJ
  replace h0 := Lib.hid h0
  clear hz hrow
  refine callsIn_of_wp Try.func46 rfl h8 ?_ hro
  simp only [Try.ntmps46, List.size_toArray, List.length_cons, List.length_nil, Nat.reduceAdd, Nat.reduceSub, Array.replicate_succ, Array.replicate_zero, List.push_toArray, List.append_toArray, List.nil_append, List.cons_append]
  gi_wp2
  gi_loopw [12] (fun i wr => ∃ k : Nat, k ≤ m ∧ i = .int .i64 k ∧ Hid (J (zs.take k) wr) ∧ KpA W wr)
    (fun i _ => m - (intOf i).toNat)
  case atStart => exact ⟨0, Nat.zero_le _, rfl, h0, KpA.refl _⟩
  case round =>
    obtain ⟨k, hk, rfl, hJs, hkp⟩ := hrel
    by_cases hlt : k < m
    · have hkz : k < zs.length := by rw [hzl.out]; exact hlt
      have hkc : k < chs.length := by rw [← hm.out]; exact hlt
      obtain ⟨b1, o1, rfl, hb1, _⟩ := hsl.addr (by omega)
      have hfz := hzk.out k hkz hkc
      obtain ⟨c, hc⟩ : ∃ c, chs[k] = c := ⟨_, rfl⟩
      rw [hc] at hfz
      obtain ⟨z, hz⟩ : ∃ z, zs[k] = z := ⟨_, rfl⟩
      rw [hz] at hfz
      obtain ⟨cs, hcl, h6, h7⟩ := hsl.get k hkc
      rw [hc] at h7
      subst h7
      have e0 : wr.cell? ⟨b1, o1 + k * 4, none⟩ = some (.int .i64 c.kind) := hkp.cell (h6 0 (by omega))
      have e1 : wr.cell? ⟨b1, o1 + k * 4 + 1, none⟩ = some (.string c.name) := hkp.cell (h6 1 (by omega))
      have e2 : wr.cell? ⟨b1, o1 + k * 4 + 2, none⟩ = some (.int .i64 c.pos) := hkp.cell (h6 2 (by omega))
      have e3 : wr.cell? ⟨b1, o1 + k * 4 + 3, none⟩ = some c.d.v := hkp.cell (h6 3 (by omega))
      have ep := hkp.cell hbp
      have lp := World.lt_of_cell ep
      dsimp only at lp
      have hba : Below wr.heap.size wr (wr.alloc (.cells #[.int .i64 c.kind, .string c.name, .int .i64 c.pos, c.d.v] 73)) := belowAlloc _ _
      have hJ1 := hJ.out.below hJs.out hba
      obtain ⟨p, hp⟩ : ∃ p, p = pickM picks k := ⟨_, rfl⟩
      rw [← hp] at hfz
      obtain ⟨fn, tmps, assign, body, hy, hR⟩ := hY.out _ z _ hJ1 (by rw [List.length_take]; omega)
      rw [hfz] at hy
      dsimp only at hy
      have hkp2 : KpA W (wr.alloc (.cells #[.int .i64 c.kind, .string c.name, .int .i64 c.pos, c.d.v] 73)) := hkp.trans (KpA.of_below hba)
      have htk : zs.take (k + 1) = zs.take k ++ [z] := by rw [List.take_succ_eq_append_getElem hkz, hz]
      replace htk := Lib.hid htk
      obtain ⟨q, hq⟩ : ∃ q : Int, q = (p : Int) := ⟨_, rfl⟩
      rw [← hq] at hy
      unfold FV.v at e3 hy hR
      replace hR := Lib.hid hR
      clear hc hz h6 hcl hJ1 hJs hfz hbd hbp hc4
      by_cases hkp3 : k < pl
      · obtain ⟨pb, po, rfl, hpb, _⟩ := hpk.addr (by rw [← hpl.out]; omega)
        have hkpk : k < picks.length := by rw [← hpl.out]; exact hkp3
        obtain ⟨v, hv⟩ : ∃ v, picks[k] = v := ⟨_, rfl⟩
        have cx : wr.cell? ⟨pb, po + k, none⟩ = some (.int .i64 v) := by
          obtain ⟨cs2, _, h8, h9⟩ := hpk.get k hkpk
          have h10 := h8 0 (by omega)
          rw [h9.1, hv] at h10
          exact hkp.cell (by simpa using h10)
        have lx := World.lt_of_cell cx
        dsimp only at lx
        have hmx : q = max v 0 := by
          rw [hq, hp]
          unfold pickM
          rw [List.getD_eq_getElem?_getD, List.getElem?_eq_getElem hkpk, hv]
          simp
          try omega
        have d1 : decide ((k : Int) < (pl : Int)) = true := by simp; omega
        clear hp hv hba hkp hq
        by_cases hv0 : v < 0
        · obtain rfl : q = 0 := by omega
          clear hmx
          gi_wp2
          refine hR.out.mono ?_
          rintro e W3 (⟨rfl, hJ3, hk3⟩ | ⟨rfl, hJx3⟩)
          · gi_wp2
            go_roundw
            case rel => exact ⟨k + 1, by omega, by simp, Lib.hid (by rw [htk.out]; exact hJ3), hkp2.trans hk3⟩
            case measure => simp [intOf]; omega
          · gi_wp2
            refine bodyPost_ret (results_none rfl _ _ _) rfl ?_
            refine ⟨⟨_, rfl⟩, .inr ⟨_, ?_, hJx3⟩⟩
            rw [← htk.out]
            exact List.take_prefix _ _
        · obtain rfl : q = v := by omega
          clear hmx
          gi_wp2
          refine hR.out.mono ?_
          rintro e W3 (⟨rfl, hJ3, hk3⟩ | ⟨rfl, hJx3⟩)
          · gi_wp2
            go_roundw
            case rel => exact ⟨k + 1, by omega, by simp, Lib.hid (by rw [htk.out]; exact hJ3), hkp2.trans hk3⟩
            case measure => simp [intOf]; omega
          · gi_wp2
            refine bodyPost_ret (results_none rfl _ _ _) rfl ?_
            refine ⟨⟨_, rfl⟩, .inr ⟨_, ?_, hJx3⟩⟩
            rw [← htk.out]
            exact List.take_prefix _ _
      · have hp0 : q = 0 := by
          rw [hq, hp]
          unfold pickM
          rw [List.getD_eq_getElem?_getD, List.getElem?_eq_none (by rw [← hpl.out]; omega)]
          rfl
        subst hp0
        have d1 : decide ((k : Int) < (pl : Int)) = false := by simp; omega
        clear hp hba hkp hq
        gi_wp2
        refine hR.out.mono ?_
        rintro e W3 (⟨rfl, hJ3, hk3⟩ | ⟨rfl, hJx3⟩)
        · gi_wp2
          go_roundw
          case rel => exact ⟨k + 1, by omega, by simp, Lib.hid (by rw [htk.out]; exact hJ3), hkp2.trans hk3⟩
          case measure => simp [intOf]; omega
        · gi_wp2
          refine bodyPost_ret (results_none rfl _ _ _) rfl ?_
          refine ⟨⟨_, rfl⟩, .inr ⟨_, ?_, hJx3⟩⟩
          rw [← htk.out]
          exact List.take_prefix _ _
    · obtain rfl : k = m := by omega
      have d9 : decide ((k : Int) < (k : Int)) = false := by simp
      gi_wp2
      go_end0
      refine ⟨⟨_, rfl⟩, .inl ?_⟩
      have := hJs.out
      rwa [List.take_of_length_le (by rw [hzl.out]; exact Nat.le_refl _)] at this

theorem all_stops {α : Type} (f : α → CH × Nat) (F : Fence) (n : Nat) (h8 : F.fn 46) (hro : F.round = none) (hn : 1 ≤ n) (bd bp b base : Nat) (cv : Value) (chs : List CH) (picks : List Int) (pa : Option Addr) (pc : Nat) (zs : List α)
    (hz : zs.map f = prs picks 0 chs) (hlen : chs.length ≤ 1000000) (w : World)
    (hbd : w.cell? ⟨bd, 0, none⟩ = some (.pointer (some ⟨b, 0, none⟩))) (hbp : w.cell? ⟨bp, 0, none⟩ = some (.slice pa picks.length pc)) (hc4 : w.cell? ⟨b, 4, none⟩ = some cv) (hrow : OwnL encC w base 73 4 cv chs) (hpk : SlA w.heap.size 1 (RI .i64) w pa pc picks) :
    SeqStopsK F n Try.prog 46 #[.pointer (some ⟨bd, 0, none⟩), .pointer (some ⟨bp, 0, none⟩)] (fun x : α => #[.agg #[.int .i64 (f x).1.kind, .string (f x).1.name, .int .i64 (f x).1.pos, (f x).1.d.v], .int .i64 (f x).2]) KpA (fun ys => ys = zs)
      (fun pre => pre <+: zs) zs.length w := fun l J Jx W hW hJ _ hY h0 => by
  refine (all1_in f F n h8 hro hn l bd bp b base cv chs picks pa pc zs hz hlen J Jx W hJ hY ((hW.cell (p := ⟨bd, 0, none⟩) (World.lt_of_cell hbd)).trans hbd) ((hW.cell (p := ⟨bp, 0, none⟩) (World.lt_of_cell hbp)).trans hbp) ((hW.cell (p := ⟨b, 4, none⟩) (World.lt_of_cell hc4)).trans hc4) (hrow.below hW (Nat.le_refl _)) (hpk.imp hW hW.size (fun cs x _ h => h)) h0).mono ?_
  rintro e W' ⟨he, hj | ⟨pre, hp, hj⟩⟩
  · exact ⟨he, .inl ⟨_, rfl, hj⟩⟩
  · exact ⟨he, .inr ⟨_, hp, hj⟩⟩

theorem all_any (dv : Value) (b : Nat) (hd : dv = .pointer (some ⟨b, 0, none⟩)) (pa : Option Addr) (pl pc : Nat) (w : World) :
    Calls Try.prog 27 #[dv, .slice pa pl pc] w fun e w' => e = .returned (.func (.func 46) #[] #[.pointer (some ⟨w.heap.size, 0, none⟩), .pointer (some ⟨w.heap.size + 1, 0, none⟩)]) ∧ w' = (w.alloc (.cells #[dv] 23)).alloc (.cells #[.slice pa pl pc] 35) := by
  subst hd
  go_enter Try.func27, Try.ntmps27
  go_wp2_with fail
  go_ret
  exact ⟨by simp, rfl⟩
end Go.Proofs.Ytjgiphoolfhlmaa
