/- Progress: a tracker; who is alive. -/
import Derived.Test.YtjmbafcpbagpdaaGreatPa
import Derived.Test.YtjmbafcpbagpdaaGreatRB
import Derived.Test.YtjmbafcpbagpdaaGreatOg
namespace Go.Proofs.YtjmbafcpbagpdaaGreat
open Go.RowKit Go.Maps
set_option linter.unusedVariables false
set_option linter.unusedSimpArgs false

/-- A count as an entry of the map. -/
def encC (p : TStamp × Int) : TStamp × Value := (p.1, .int .i64 p.2)
def entC (cs : List (TStamp × Int)) : List (TStamp × Value) := cs.map encC
def aliveC (cs : List (TStamp × Int)) : List TStamp := (cs.filter fun p => decide (0 < p.2)).map Prod.fst
def aliveE (es : List (TStamp × Value)) : List TStamp := (es.filter fun p => decide (0 < intOf p.2)).map Prod.fst
theorem alive_ent (cs : List (TStamp × Int)) : aliveE (entC cs) = aliveC cs := by
  unfold aliveE entC aliveC
  rw [List.filter_map, List.map_map]
  rfl
theorem ent_mem {cs : List (TStamp × Int)} {x : TStamp} {v : Value} (h : (x, v) ∈ entC cs) : ∃ k, (x, k) ∈ cs ∧ v = .int .i64 k := by
  obtain ⟨⟨s, k⟩, h1, h2⟩ := List.mem_map.1 h
  unfold encC at h2
  simp only [Prod.mk.injEq] at h2
  obtain ⟨rfl, rfl⟩ := h2
  exact ⟨k, h1, rfl⟩
theorem aliveE_del {es : List (TStamp × Value)} {x : TStamp} {v : Value} (hn : (es.map Prod.fst).Nodup) (h : (x, v) ∈ es) : (aliveE es).Perm ((if 0 < intOf v then [x] else []) ++ aliveE (delE es x)) := by
  have := (RangeL.del_perm hn h).filter (fun p => decide (0 < intOf p.2))
  have h2 := this.map Prod.fst
  unfold aliveE
  refine h2.trans (List.Perm.of_eq ?_)
  rw [List.filter_cons]
  by_cases hv : 0 < intOf v <;> simp [hv]
theorem aliveE_len (es : List (TStamp × Value)) : (aliveE es).length ≤ es.length := by
  unfold aliveE
  rw [List.length_map]
  exact List.length_filter_le _ _

theorem zeroInt (w : World) : (zeroValue 3).run Tryz.prog w = .ok (.int .i64 0) w := Tryz.zeroValue3 w

set_option maxRecDepth 100000 in
set_option maxHeartbeats 1000000 in
theorem alive_any (tb mb : Nat) (gv wv : Value) (cs : List (TStamp × Int)) (w : World) (hT : Blk w tb #[gv, wv, .map (some mb)] 105) (hM : MapL Tryz.prog 59 klS wfS w mb (entC cs)) (hz : (cs.length + 1) * 24 ≤ 140737488355328) :
    Calls Tryz.prog 42 #[.pointer (some ⟨tb, 0, none⟩)] w fun e w' => ∃ v L, e = .returned v ∧ OwnL encS w' w.heap.size 59 3 v L ∧ L.Perm (aliveC cs) ∧ Below w.heap.size w w' := by
  obtain ⟨i0, hi, hz0, hz1, hz2⟩ := info_parts infoS
  have c2 := hT.cellAt (i := 2) (v := .map (some mb)) rfl
  obtain ⟨es, hes⟩ : ∃ es, es = entC cs := ⟨_, rfl⟩
  have hel : es.length = cs.length := by rw [hes]; simp [entC]
  rw [← hes] at hM
  rw [← alive_ent, ← hes]
  have hev : ∀ x v, (x, v) ∈ es → ∃ k, v = .int .i64 k := fun x v h => by rw [hes] at h; obtain ⟨k, _, hk⟩ := ent_mem h; exact ⟨k, hk⟩
  rw [← hel] at hz
  have hal := aliveE_len es
  replace hev := Lib.hid hev
  clear hes hel hT
  go_enter Tryz.func42, Tryz.ntmps42
  go_wp2_with (at_range; refine wpList_rangeL rfl _ _ rfl keyS hM Tryz.underlying103 rfl ?next)
  case next =>
  intro w1 hr hb1 hs1
  obtain ⟨rb, hrb⟩ : ∃ rb, rb = w.heap.size := ⟨_, rfl⟩
  rw [← hrb] at hr hb1 hs1 ⊢
  have hbb : w.heap.size ≤ rb := by omega
  have hrb1 : rb < w1.heap.size := by omega
  have hmr : mb < rb := by rw [hrb]; exact hM.lt
  clear hs1 c2 hM
  replace hrb := Lib.hid hrb
  go_wp2_with fail
  go_loopw [3] (fun v wr => ∃ rest L, RangeL Tryz.prog 59 klS wfS wr mb rb es rest ∧ OwnL encS wr (rb + 1) 59 3 v L ∧ (aliveE es).Perm (L ++ aliveE rest) ∧ Below rb w wr ∧ rb < wr.heap.size) (fun _ wr => wr.rangeLeft mb rb)
  case atStart => exact ⟨es, [], hr, OwnL.nil _ _ _ _ _, .refl _, hb1, hrb1⟩
  case round =>
    clear hr hb1 hrb1
    obtain ⟨rest, L, hr, hown, hperm, hbr, hlt⟩ := hrel
    go_wp2_with (at_next; refine wpList_nextL rfl _ rfl keyS hr rfl ?fin ?more)
    case fin =>
      rintro rfl
      go_wp2_with fail
      go_ret
      refine ⟨u3, L, rfl, hown.base_le (by omega), ?_, ?_⟩
      · rw [show aliveE ([] : List (TStamp × Value)) = [] from rfl, List.append_nil] at hperm
        exact hperm.symm
      · rw [← hrb.out]; exact hbr
    case more =>
      intro x v w2 hm hx hr2 hlt2 hch hsz hen
      obtain ⟨k, rfl⟩ := hev.out x v (hr.sub _ hm)
      have hpd := aliveE_del hr.rnodup hm
      have hown2 := hown.chg hch (fun g hg e => by have := (hown.lt g hg).1; omega)
      have hb2 : Below rb w w2 := hbr.trans (hch.below (by omega) (fun j hj e => by omega))
      have hl2 : rb < w2.heap.size := by omega
      have hll : L.length ≤ es.length := by
        have h1 := hperm.length_eq
        rw [List.length_append] at h1
        omega
      have hll2 : 0 < k → L.length + 1 ≤ es.length := fun hk => by
        have h1 := hperm.length_eq
        have h2 := hpd.length_eq
        rw [List.length_append] at h1 h2
        rw [if_pos (show 0 < intOf (Value.int .i64 k) from hk)] at h2
        simp only [List.length_singleton] at h2
        omega
      clear hr hm hown hbr hlt hch hsz
      obtain ⟨xl, ⟨xe, xr⟩⟩ := x
      unfold mkS at hen ⊢
      dsimp only at hen ⊢
      by_cases hk : 0 < k
      · have hk2 := hll2 hk
        have hd : decide ((0 : Int) < k) = true := by simpa using hk
        go_upto_region 6 with fail
        refine Code.wp_world ?_
        intro w3 hw3
        have h23 : Chg (fun _ => False) w2 w3 := by rw [hw3]; exact (Chg.refl _ _).alloc _
        have hB3 : Blk w3 w2.heap.size #[.int .i64 xl, .int .i64 xe, .int .i64 xr] 59 := by rw [hw3]; exact Blk.new _ _ _
        have hr3 := hr2.chg h23 (fun h => h) (fun h => h)
        have hown3 := hown2.chg h23 (fun _ _ h => h)
        have hb3 : Below rb w w3 := hb2.trans (h23.below (by omega) (fun _ _ h => h))
        have hl3 : rb + 1 ≤ w3.heap.size := by have := h23.size; omega
        have q0 := hB3.cellAt (i := 0) (v := .int .i64 xl) rfl
        have q1 := hB3.cellAt (i := 1) (v := .int .i64 xe) rfl
        have q2 := hB3.cellAt (i := 2) (v := .int .i64 xr) rfl
        clear hw3 h23
        go_wp2_with (at_builtin; refine Shut.out ?stopa)
        unfold Shut
        refine wpList_app1 rfl _ _ 29 rfl Tryz.underlying29 hi hz0 hz1 hz2 rfl (by decide) (enc := encS) ⟨xl, ⟨xe, xr⟩⟩ rfl hown3 rfl (encS_len _) (encS_one _) (by first | omega | (simp; done) | (simp; omega)) (by unfold maxLen; first | omega | (simp; done) | (simp; omega)) (hl3) ?_
        intro a1 cp1 w6 hown6 hb6 _
        have hr6 := hr3.1.chg (Chg.of_below hb6) (by omega) (by omega)
        have hb36 := hb3.trans (hb6.mono (by omega))
        have hl6 : rb < w6.heap.size := by have := hb6.size; omega
        clear hr2 hown2 hown3 hb2 hb3 hl2 q0 q1 q2 hB3
        go_wp2_with fail
        go_roundw
        case rel =>
          refine ⟨_, _, hr6.1, hown6, ?_, hb36, hl6⟩
          rw [if_pos (show 0 < intOf (Value.int .i64 k) from hk)] at hpd
          rw [List.append_assoc]
          exact hperm.trans (hpd.append_left L)
        case measure =>
          rw [hr6.2, hr3.2]
          exact hlt2
      · have hr3 := hr2.chg ((Chg.refl (fun _ => False) w2).alloc (.cells #[.int .i64 xl, .int .i64 xe, .int .i64 xr] 59)) (fun h => h) (fun h => h)
        have hown3 := hown2.alloc (.cells #[.int .i64 xl, .int .i64 xe, .int .i64 xr] 59)
        have hb3 := hb2.alloc (o := .cells #[.int .i64 xl, .int .i64 xe, .int .i64 xr] 59) (by omega)
        have hl3 : rb < (w2.alloc (.cells #[.int .i64 xl, .int .i64 xe, .int .i64 xr] 59)).heap.size := by simp; omega
        have hd : decide ((0 : Int) < k) = false := by simpa using hk
        go_wp2_with fail
        go_roundw
        case rel =>
          refine ⟨_, _, hr3.1, hown3, ?_, hb3, hl3⟩
          rw [if_neg (show ¬ 0 < intOf (Value.int .i64 k) from hk), List.nil_append] at hpd
          exact hperm.trans (hpd.append_left L)
        case measure =>
          rw [hr3.2]
          exact hlt2
end Go.Proofs.YtjmbafcpbagpdaaGreat
