/- Stamp: the document's Front. -/
import Derived.Test.YtjmbafcpbagpdaaGreatSA
import Derived.Test.YtjmbafcpbagpdaaGreatBaseK
import Derived.Test.YtjmbafcpbagpdaaGreatLay
import Derived.Deep.LoopGhost
import Derived.WalkMore
import Derived.Laws.StructEq
namespace Go.Proofs.YtjmbafcpbagpdaaGreat
open Go.RowKit
set_option linter.unusedVariables false

def encT (x : TTime) : List Value := [.int .i64 x.fEpoch, .int .i64 x.fRound]
def wfT (x : TTime) : Prop := (Lit.int .i64 x.fEpoch).wf = true ∧ (Lit.int .i64 x.fRound).wf = true
theorem encT_len (x : TTime) : (encT x).length = 2 := rfl
theorem encT_one (x : TTime) : ∀ u ∈ encT x, u.oneCell' = true := by
  intro u hu
  simp only [encT, List.mem_cons, List.not_mem_nil, or_false] at hu
  rcases hu with rfl | rfl <;> rfl
theorem infoT : (Tryz.prog.info? 57).map (fun i => (i.zero, i.size, i.bytes)) = some (some (.agg #[.int .i64 0, .int .i64 0]), 2, 16) := by kernel_rfl
/-- A row of times of the call's own. -/
def OwnT (w : World) (base : Nat) (v : Value) (xs : List TTime) : Prop := OwnL encT w base 57 2 v xs ∧ ∀ x ∈ xs, wfT x
theorem OwnT.sla {w : World} {base : Nat} {v : Value} {xs : List TTime} (h : OwnT w base v xs) : ∃ ao cap, v = .slice ao xs.length cap ∧ SlA w.heap.size 2 (RTime w.heap.size) w ao cap xs :=
  h.1.sla encT_len (fun x hx => ⟨rfl, h.2 x hx⟩)
theorem OwnT.nil (w : World) (base : Nat) : OwnT w base (.slice none 0 0) [] := ⟨OwnL.nil _ _ _ _ _, by simp⟩
theorem OwnT.base_le {w : World} {base base' : Nat} {v : Value} {xs : List TTime} (h : OwnT w base v xs) (hb : base' ≤ base) : OwnT w base' v xs := ⟨h.1.base_le hb, h.2⟩
theorem OwnT.below {w w' : World} {base B : Nat} {v : Value} {xs : List TTime} (h : OwnT w base v xs) (hb : Below B w w') (hB : w.heap.size ≤ B) : OwnT w' base v xs := ⟨h.1.below hb hB, h.2⟩
theorem wf_of_sla {B : Nat} {w : World} {ao : Option Addr} {cap : Nat} {xs : List TTime} (h : SlA B 2 (RTime B) w ao cap xs) : ∀ x ∈ xs, wfT x := by
  intro x hx
  obtain ⟨i, hi, rfl⟩ := List.getElem_of_mem hx
  obtain ⟨b, off, rfl, _, _⟩ := h.addr (by omega)
  obtain ⟨_, _, h1, h2⟩ := RTime.at h hi rfl
  exact ⟨h1, h2⟩

theorem left_skip {t o : TTime} {out : List TTime} {j : Nat} {d : Bool} (h : j < out.length) (ho : out[j] = o) (hle : leT t o = true) : leftT t (out.drop j) d = leftT t (out.drop (j + 1)) d := by
  rw [List.drop_eq_getElem_cons h, ho, leftT, if_pos hle]
theorem left_both {t o : TTime} {out : List TTime} {j : Nat} {d : Bool} (h : j < out.length) (ho : out[j] = o) (hle : leT t o = false) (hd : (!d && decide (t.fEpoch < o.fEpoch)) = true) :
    leftT t (out.drop j) d = [t] ++ ([o] ++ leftT t (out.drop (j + 1)) true) := by
  rw [List.drop_eq_getElem_cons h, ho, leftT, if_neg (by rw [hle]; simp), if_pos hd]; rfl
theorem left_one {t o : TTime} {out : List TTime} {j : Nat} {d : Bool} (h : j < out.length) (ho : out[j] = o) (hle : leT t o = false) (hd : (!d && decide (t.fEpoch < o.fEpoch)) = false) :
    leftT t (out.drop j) d = [o] ++ leftT t (out.drop (j + 1)) d := by
  rw [List.drop_eq_getElem_cons h, ho, leftT, if_neg (by rw [hle]; simp), if_neg (by rw [hd]; simp)]; rfl

set_option maxRecDepth 100000 in
set_option maxHeartbeats 4000000 in
theorem rfront_any (l : List TTime) (ao : Option Addr) (c1 : Nat) (w : World) (B : Nat) (hB : B ≤ w.heap.size) (hl : SlA B 2 (RTime B) w ao c1 l) (hreach : l.length * 16 ≤ 140737488351232) :
    Calls Tryz.prog 40 #[.slice ao l.length c1] w fun e w' => ∃ v, e = .returned v ∧ OwnT w' w.heap.size v (frontT l) ∧ Below w.heap.size w w' := by
  have hwf := Lib.hid (wf_of_sla hl)
  obtain ⟨i0, hi, hz0, hz1, hz2⟩ := info_parts infoT
  obtain ⟨n, hn⟩ : ∃ n, n = l.length := ⟨_, rfl⟩
  rw [← hn]
  rw [← hn] at hreach
  replace hn := Lib.hid hn
  obtain ⟨res, hres⟩ : ∃ res, res = frontT l := ⟨_, rfl⟩
  rw [← hres]
  replace hres := Lib.hid hres
  go_enter Tryz.func40, Tryz.ntmps40
  go_wp2_with fail
  go_loopw [3, 4] (fun v i wr => ∃ (k : Nat) (out : List TTime), k ≤ n ∧ i = .int .i64 k ∧ OwnT wr w.heap.size v out ∧ Below w.heap.size w wr ∧ out.length ≤ k ∧ Hid ((l.drop k).foldl stepT out = res)) (fun _ i _ => n - (intOf i).toNat)
  case atStart => exact ⟨0, [], Nat.zero_le _, rfl, OwnT.nil _ _, Below.refl _ _, by simp, by rw [hres.out]; exact Lib.hid rfl⟩
  case round =>
    obtain ⟨k, out, hk, rfl, hown, hbel, hol, hpre⟩ := hrel
    have hsz := hbel.size
    obtain ⟨oo, oc, rfl, hsl⟩ := hown.sla
    by_cases hlt : k < n
    · have hkl : k < l.length := by rw [← hn.out]; exact hlt
      obtain ⟨b1, o1, rfl, hb1', _⟩ := hl.addr (by omega)
      obtain ⟨x, hx⟩ : ∃ x, l[k] = x := ⟨_, rfl⟩
      obtain ⟨e0, e1, _, _⟩ := RTime.at (imp_times hl (hbel.mono hB)) hkl hx
      have hg := fun W => rgood_t x W
      have hcv := fun W (hb : Below wr.heap.size wr W) => rcovers_any out x oo oc W wr.heap.size hb.size (imp_times hsl hb)
      have hst : (l.drop (k + 1)).foldl stepT (stepT out x) = res := by
        rw [← hpre.out, List.drop_eq_getElem_cons hkl, hx]; rfl
      have hxw : wfT x := hwf.out x (by rw [← hx]; exact List.getElem_mem hkl)
      replace hx := Lib.hid hx
      obtain ⟨m, hm⟩ : ∃ m, m = out.length := ⟨_, rfl⟩
      rw [← hm] at hol hcv hown ⊢
      replace hm := Lib.hid hm
      cases h1 : goodT x with
      | false =>
        have hst2 : (l.drop (k + 1)).foldl stepT out = res := by rw [← hst]; simp [stepT, h1]
        replace hst2 := Lib.hid hst2
        rw [h1] at hg
        clear h1 hst hcv
        go_wp2_with fail
        refine (hg _).mono ?_
        rintro e w2 ⟨rfl, b2⟩
        have hbu := hbel.trans (b2.mono hsz)
        have hown2 := hown.below b2 (Nat.le_refl _)
        clear hg
        go_wp2_with fail
        go_roundw
        case rel => exact ⟨k + 1, out, by omega, by go_num, hown2, hbu, by rw [← hm.out]; omega, hst2⟩
        case measure => simp [intOf]; omega
      | true =>
        rw [h1] at hg
        cases h2 : coversT out x with
        | true =>
          have hst2 : (l.drop (k + 1)).foldl stepT out = res := by rw [← hst]; simp [stepT, h2]
          replace hst2 := Lib.hid hst2
          rw [h2] at hcv
          clear h1 hst h2
          go_wp2_with fail
          refine (hg _).mono ?_
          rintro e w2 ⟨rfl, b2⟩
          have hc2 := hcv _ b2
          have e02 := (b2.cell (p := ⟨b1, _, none⟩) (show b1 < wr.heap.size by omega)).trans e0
          have e12 := (b2.cell (p := ⟨b1, _, none⟩) (show b1 < wr.heap.size by omega)).trans e1
          clear hg hcv e0 e1
          go_wp2_with fail
          refine hc2.mono ?_
          rintro e w3 ⟨rfl, b3⟩
          have b4 := b2.trans (b3.mono b2.size)
          have hbu := hbel.trans (b4.mono hsz)
          have hown2 := hown.below b4 (Nat.le_refl _)
          clear hc2
          go_wp2_with fail
          go_roundw
          case rel => exact ⟨k + 1, out, by omega, by go_num, hown2, hbu, by rw [← hm.out]; omega, hst2⟩
          case measure => simp [intOf]; omega
        | false =>
          rw [show stepT out x = leftT x out false by simp [stepT, h1, h2]] at hst
          replace hst := Lib.hid hst
          rw [h2] at hcv
          clear h1 h2
          go_wp2_with fail
          refine (hg _).mono ?_
          rintro e w2 ⟨rfl, b2⟩
          have hc2 := hcv _ b2
          have e02 := (b2.cell (p := ⟨b1, _, none⟩) (show b1 < wr.heap.size by omega)).trans e0
          have e12 := (b2.cell (p := ⟨b1, _, none⟩) (show b1 < wr.heap.size by omega)).trans e1
          clear hg hcv e0 e1
          go_wp2_with fail
          refine hc2.mono ?_
          rintro e w3 ⟨rfl, b3⟩
          have b4 := b2.trans (b3.mono b2.size)
          have hbu := hbel.trans (b4.mono hsz)
          have hb1w : b1 < w3.heap.size := by have := b4.size; omega
          have hsl3 := imp_times' (imp_times hsl b4) b4.size
          have e03 := (b3.cell (p := ⟨b1, _, none⟩) (show b1 < w2.heap.size by have := b2.size; omega)).trans e02
          have e13 := (b3.cell (p := ⟨b1, _, none⟩) (show b1 < w2.heap.size by have := b2.size; omega)).trans e12
          clear hc2 e02 e12 hsl b2 b3 b4 hbel
          go_wp2_with fail
          go_loopw [5, 6, 7] (fun v d i wx => ∃ (j : Nat) (L : List TTime) (dn : Bool), j ≤ m ∧ i = .int .i64 j ∧ d = .bool dn ∧ OwnT wx w3.heap.size v L ∧ Below w3.heap.size w3 wx ∧ L.length ≤ j + 1 ∧ (dn = false → L.length ≤ j) ∧ Hid (L ++ leftT x (out.drop j) dn = leftT x out false)) (fun _ _ i _ => m - (intOf i).toNat)
          case atStart => exact ⟨0, [], false, Nat.zero_le _, rfl, rfl, OwnT.nil _ _, Below.refl _ _, by simp, by simp, Lib.hid rfl⟩
          case round =>
            obtain ⟨j, L, dn, hj, rfl, rfl, hownL, hbx, hLl, hLd, hinv⟩ := hrel
            have hszx := hbx.size
            have e0x := (hbx.cell (p := ⟨b1, _, none⟩) hb1w).trans e03
            have e1x := (hbx.cell (p := ⟨b1, _, none⟩) hb1w).trans e13
            obtain ⟨f0, f1, p0, p1, rfl, hpp⟩ : ∃ f0 f1 p0 p1, x = ⟨f0, f1⟩ ∧ Hid (p0 = f0 ∧ p1 = f1) := ⟨x.fEpoch, x.fRound, x.fEpoch, x.fRound, rfl, Lib.hid ⟨rfl, rfl⟩⟩
            simp only at e0x e1x
            clear hpp p0 p1
            by_cases hltj : j < m
            · have hjo : j < out.length := by rw [← hm.out]; exact hltj
              obtain ⟨b2, o2, rfl, hb2', _⟩ := hsl3.addr (by omega)
              obtain ⟨⟨y0, y1⟩, hy⟩ : ∃ y, out[j] = y := ⟨_, rfl⟩
              obtain ⟨g0, g1, _, _⟩ := RTime.at (imp_times hsl3 hbx) hjo hy
              simp only at g0 g1
              have hyw : wfT ⟨y0, y1⟩ := hown.2 _ (by rw [← hy]; exact List.getElem_mem hjo)
              have q0 := Wd.cell e0x (show b1 < wr.heap.size by omega)
              have q1 := Wd.cell e1x (show b1 < wr.heap.size by omega)
              have q2 := Wd.cell g0 (show b2 < wr.heap.size by omega)
              have q3 := Wd.cell g1 (show b2 < wr.heap.size by omega)
              have hle := fun W => rle_any f0 f1 y0 y1 W
              have s1 := left_skip (d := dn) hjo hy (t := ⟨f0, f1⟩)
              have s2 := left_both (d := dn) hjo hy (t := ⟨f0, f1⟩)
              have s3 := left_one (d := dn) hjo hy (t := ⟨f0, f1⟩)
              clear e0x e1x g0 g1 hy
              cases h1 : leT ⟨f0, f1⟩ ⟨y0, y1⟩ with
              | true =>
                have hinv2 := hinv.out
                rw [s1 h1] at hinv2
                replace hinv2 := Lib.hid hinv2
                rw [h1] at hle
                clear s1 s2 s3 h1 hinv
                go_wp2_with fail
                refine wp_region_below (by kernel_rfl) (by kernel_rfl) ?_
                repeat (go_big_quiet_step ((go_at_call 61; exact Calls.quiet_below (hle _))))
                refine wpQuiet_nil ?_
                rintro _ ⟨u, rfl⟩
                have hbu := hbx.trans (u.h.mono hszx)
                have hownu := hownL.below u.h (Nat.le_refl _)
                go_wp2_with fail
                go_roundw
                case rel => exact ⟨j + 1, L, dn, by omega, by go_num, rfl, hownu, hbu, by omega, fun h => by have := hLd h; omega, hinv2⟩
                case measure => simp [intOf]; omega
              | false =>
                have s2 := s2 h1
                have s3 := s3 h1
                rw [h1] at hle
                clear s1 h1
                cases hd : (!dn && decide (f0 < y0)) with
                | true =>
                  have hd1 : dn = false ∧ f0 < y0 := by simpa using hd
                  have hinv2 := hinv.out
                  rw [s2 (by simpa using hd), ← List.append_assoc, ← List.append_assoc] at hinv2
                  replace hinv2 := Lib.hid hinv2
                  obtain ⟨rfl, hlt0⟩ := hd1
                  have hLl2 := hLd rfl
                  clear s2 s3 hd hinv hLd
                  go_wp2_with fail
                  refine wp_region_below (by kernel_rfl) (by kernel_rfl) ?_
                  repeat (go_big_quiet_step ((go_at_call 61; exact Calls.quiet_below (hle _))))
                  refine wpQuiet_nil ?_
                  rintro _ ⟨u, rfl⟩
                  have hbu := hbx.trans (u.h.mono hszx)
                  have hownu := hownL.below u.h (Nat.le_refl _)
                  have t0 := q0 u
                  have t1 := q1 u
                  have t2 := q2 u
                  have t3 := q3 u
                  have hux := hbu.size
                  have hll : (L ++ [(⟨f0, f1⟩ : TTime)]).length = L.length + 1 := by simp
                  clear q0 q1 q2 q3 hle hownL hbx
                  go_wp2_with fail
                  go_quiet (fail)
                  go_wp2_with (at_builtin; (refine wpList_app1 rfl _ _ 49 rfl Tryz.underlying49 hi hz0 hz1 hz2 rfl (by decide) (enc := encT) ⟨f0, f1⟩ rfl (hownu.1.drewN _) rfl (encT_len _) (encT_one _) ?hb1 ?hb2 hux ?next))
                  case hb1 => omega
                  case hb2 => unfold maxLen; omega
                  case next =>
                  intro a1 cp1 w4 hown4 hb4 _
                  have hbu4 := (below_drewN hbu nq).trans hb4
                  have hux4 := hbu4.size
                  have t24 := (hb4.cell (p := ⟨b2, _, none⟩) (show b2 < w3.heap.size by omega)).trans t2
                  have t34 := (hb4.cell (p := ⟨b2, _, none⟩) (show b2 < w3.heap.size by omega)).trans t3
                  have hwL : ∀ z ∈ L, wfT z := hownu.2
                  clear hownu hbu hb4 t0 t1 t2 t3 hux
                  go_wp2_with (at_builtin; (refine wpList_app1 rfl _ _ 49 rfl Tryz.underlying49 hi hz0 hz1 hz2 rfl (by decide) (enc := encT) (xs := L ++ [⟨f0, f1⟩]) ⟨y0, y1⟩ (v := .slice (some a1) (L.length + 1) cp1) rfl hown4 rfl (encT_len _) (encT_one _) ?hb1 ?hb2 hux4 ?next))
                  case hb1 => rw [hll]; omega
                  case hb2 => rw [hll]; unfold maxLen; omega
                  case next =>
                  intro a2 cp2 w5 hown5 hb5 _
                  have hbu5 := hbu4.trans hb5
                  clear hown4 hb5 hbu4
                  go_wp2_with fail
                  go_roundw
                  case rel =>
                    refine ⟨j + 1, L ++ [⟨f0, f1⟩] ++ [⟨y0, y1⟩], true, by omega, by go_num, rfl, ⟨by rw [List.append_assoc]; exact hown5, ?_⟩, hbu5, by simp; omega, by simp, hinv2⟩
                    intro z hz
                    simp only [List.mem_append, List.mem_singleton] at hz
                    rcases hz with (hz | rfl) | rfl
                    · exact hwL z hz
                    · exact hxw
                    · exact hyw
                  case measure => simp [intOf]; omega
                | false =>
                  have hd1 : dn = true ∨ (dn = false ∧ ¬ f0 < y0) := by cases dn <;> simp_all
                  have hinv2 := hinv.out
                  rw [s3 (by simpa using hd), ← List.append_assoc] at hinv2
                  replace hinv2 := Lib.hid hinv2
                  have hll : (L ++ [(⟨y0, y1⟩ : TTime)]).length = L.length + 1 := by simp
                  clear s2 s3 hd hinv
                  rcases hd1 with rfl | ⟨rfl, hlt0⟩
                  all_goals
                    go_wp2_with fail
                    refine wp_region_below (by kernel_rfl) (by kernel_rfl) ?_
                    repeat (go_big_quiet_step ((go_at_call 61; exact Calls.quiet_below (hle _))))
                    refine wpQuiet_nil ?_
                    rintro _ ⟨u, rfl⟩
                    have hbu := hbx.trans (u.h.mono hszx)
                    have hownu := hownL.below u.h (Nat.le_refl _)
                    have t0 := q0 u
                    have t1 := q1 u
                    have t2 := q2 u
                    have t3 := q3 u
                    have hux := hbu.size
                    have hwL : ∀ z ∈ L, wfT z := hownu.2
                    clear q0 q1 q2 q3 hle hownL hbx
                    go_wp2_with fail
                    go_quiet (fail)
                    go_wp2_with (at_builtin; (refine wpList_app1 rfl _ _ 49 rfl Tryz.underlying49 hi hz0 hz1 hz2 rfl (by decide) (enc := encT) ⟨y0, y1⟩ rfl (hownu.1.drewN _) rfl (encT_len _) (encT_one _) ?hb1 ?hb2 hux ?next))
                    case hb1 => omega
                    case hb2 => unfold maxLen; omega
                    case next =>
                    intro a1 cp1 w4 hown4 hb4 _
                    have hbu4 := (below_drewN hbu nq).trans hb4
                    clear hb4 hbu hownu
                    go_wp2_with fail
                    go_roundw
                    case rel =>
                      refine ⟨j + 1, L ++ [⟨y0, y1⟩], _, by omega, by go_num, rfl, ⟨hown4, ?_⟩, hbu4, by omega, fun h => by (try (have := hLd trivial)); (try (have := hLd h)); (try cases h); (try omega), hinv2⟩
                      intro z hz
                      simp only [List.mem_append, List.mem_singleton] at hz
                      rcases hz with hz | rfl
                      · exact hwL z hz
                      · exact hyw
                    case measure => simp [intOf]; omega
            · obtain rfl : j = m := by omega
              have hinv2 := hinv.out
              rw [List.drop_eq_nil_of_le (by rw [← hm.out]; exact Nat.le_refl _)] at hinv2
              have hst2 := hst.out
              have hll : (L ++ [(⟨f0, f1⟩ : TTime)]).length = L.length + 1 := by simp
              cases dn with
              | true =>
                rw [← hinv2] at hst2
                simp only [leftT, if_true, List.append_nil] at hst2
                replace hst2 := Lib.hid hst2
                clear hinv hinv2 hst
                go_wp2_with fail
                go_roundw
                case rel => exact ⟨k + 1, L, by omega, by go_num, hownL.base_le hbu.size, hbu.trans (hbx.mono hbu.size), by omega, hst2⟩
                case measure => simp [intOf]; omega
              | false =>
                rw [← hinv2] at hst2
                simp only [leftT, Bool.false_eq_true, if_false] at hst2
                replace hst2 := Lib.hid hst2
                have hLl2 := hLd rfl
                have hwL : ∀ z ∈ L, wfT z := hownL.2
                clear hinv hinv2 hst
                go_wp2_with (at_builtin; (refine wpList_app1 rfl _ _ 49 rfl Tryz.underlying49 hi hz0 hz1 hz2 rfl (by decide) (enc := encT) ⟨f0, f1⟩ rfl hownL.1 rfl (encT_len _) (encT_one _) ?hb1 ?hb2 hszx ?next))
                case hb1 => omega
                case hb2 => unfold maxLen; omega
                case next =>
                intro a1 cp1 w4 hown4 hb4 _
                have hbu4 := hbu.trans ((hbx.trans hb4).mono hbu.size)
                have hw3 := hbu.size
                clear hb4 hbu hownL
                go_wp2_with fail
                go_roundw
                case rel =>
                  refine ⟨k + 1, L ++ [⟨f0, f1⟩], by omega, by go_num, ⟨hown4.base_le hw3, ?_⟩, hbu4, by omega, hst2⟩
                  intro z hz
                  simp only [List.mem_append, List.mem_singleton] at hz
                  rcases hz with hz | rfl
                  · exact hwL z hz
                  · exact hxw
                case measure => simp [intOf]; omega
    · obtain rfl : k = n := by omega
      have hr : out = res := by
        have := hpre.out
        rw [List.drop_eq_nil_of_le (by rw [← hn.out]; exact Nat.le_refl _)] at this
        exact this
      subst hr
      go_wp2_with fail
      go_ret
      exact ⟨_, rfl, hown, hbel⟩
end Go.Proofs.YtjmbafcpbagpdaaGreat

/- Stamp: the program's closures, Covers, and the sort. -/
namespace Go.Proofs.YtjmbafcpbagpdaaGreat
open Go.RowKit Go.Shelf Go.Lib Go.Sort
set_option linter.unusedVariables false

instance : Inhabited TTime := ⟨⟨0, 0⟩⟩

set_option maxHeartbeats 1000000 in
theorem front1_any (x y : TTime) (W : World) : Calls Tryz.prog 84 #[.agg #[.int .i64 x.fEpoch, .int .i64 x.fRound], .agg #[.int .i64 y.fEpoch, .int .i64 y.fRound]] W fun e w' =>
    e = .returned (.int .i64 (Lib.compareInt x.fEpoch y.fEpoch)) ∧ ∃ q os', w' = grow (W.drewN q) os' := by
  have hcon := fun W' => AnyG.cmp_Compare_int layCmp x.fEpoch y.fEpoch W'
  change ∀ W', Calls Tryz.prog 67 _ _ _ at hcon
  generalize Lib.compareInt x.fEpoch y.fEpoch = r at hcon ⊢
  go_enter Tryz.func84, Tryz.ntmps84
  go_wp2_with (go_at_call 67; refine (hcon _).mono ?_; rintro e w' ⟨rfl, rfl⟩)
  go_ret
  exact ⟨rfl, 0, _, by rw [alloc_eq_grow, alloc_eq_grow, grow_grow]; rfl⟩

def cmpE (x y : TTime) : Int := Lib.compareInt x.fEpoch y.fEpoch
theorem ltE (x y : TTime) : ltOf cmpE x y = decide (x.fEpoch < y.fEpoch) := by
  unfold ltOf cmpE Lib.compareInt
  by_cases h1 : x.fEpoch < y.fEpoch
  · simp [h1]
  · by_cases h2 : y.fEpoch < x.fEpoch <;> simp [h1, h2]
theorem swoE : SWO (ltOf cmpE) where
  irrefl x := by rw [ltE]; simp
  trans x y z h1 h2 := by rw [ltE] at *; simp at *; omega
  ntrans x y z h1 h2 := by rw [ltE] at *; simp at *; omega

theorem sort_any (xs : List TTime) (v : Value) (w : World) (base : Nat) (h : OwnT w base v xs) (hl : xs.length < 4611686018427387904) :
    Calls Tryz.prog 83 #[v, .func (.func 84) #[] #[]] w fun e w' => e = .returned (.tuple #[]) ∧
      ∃ ys : List TTime, ys.length = xs.length ∧ ys.Perm xs ∧ (ys.Pairwise fun a b => a.fEpoch ≤ b.fEpoch) ∧ OwnT w' base v ys ∧ w.grownBy w' v.ownBlock := by
  rcases h.1.form with ⟨rfl, rfl⟩ | ⟨g, cap, cells, rfl, _, _, _, _, _, hlt, _⟩
  · have hcon := AnyF.slices_SortFunc_none { laySort with } none 0 (.func (.func 84) #[] #[]) w
    change Calls Tryz.prog 83 _ _ _ at hcon
    refine hcon.mono ?_
    rintro e w' ⟨rfl, rfl⟩
    exact ⟨rfl, [], rfl, List.Perm.refl _, List.Pairwise.nil, OwnT.nil _ _, World.grownBy.refl _ _⟩
  · have eg : ∀ args w, (callFunc 84 args).run Tryz.prog w = .ok (.enter 84 args) w := enters_of Tryz.func84 (by kernel_rfl) rfl
    have hcon := AnyQ.slices_SortFunc laySort 2 Tryz.isAgg57 Tryz.sizeOf57 encT encT_len encT_one cmpE swoE 84 #[] g 0 cap xs.toArray w eg
      (fun _ _ _ _ x y => front1_any x y _) (h.1.holds encT_len (by decide)) hlt (by simpa using hl)
    change Calls Tryz.prog 83 _ _ _ at hcon
    simp only [List.size_toArray] at hcon
    refine hcon.mono ?_
    rintro e w' ⟨rfl, d', n, os, hp, hs, rfl⟩
    have hp2 := perm_of_permIn (d := xs.toArray) (by simpa using hp)
    have hd : d'.size = xs.length := by simpa using hp.1
    rw [← hd] at hs
    have hs2 := pairwise_of_sortedIn hs
    obtain ⟨h1, h2⟩ := h.1.sorted (n := n) (os := os) encT_len (by decide) hd
    refine ⟨rfl, d'.toList, by simpa using hd, hp2, hs2.imp (fun {a b} hab => by rw [ltE] at hab; simpa using hab), ⟨h1, fun x hx => h.2 x (hp2.mem_iff.1 hx)⟩, h2⟩

end Go.Proofs.YtjmbafcpbagpdaaGreat

/- Stamp: the program's Covers and Front. -/
namespace Go.Proofs.YtjmbafcpbagpdaaGreat
open Go.RowKit
set_option linter.unusedVariables false

theorem neq_time (a b c d : Int) (w : World) : (binOp .neq 57 (.agg #[.int .i64 a, .int .i64 b]) (.agg #[.int .i64 c, .int .i64 d])).run Tryz.prog w = .ok (.bool (!(a == c && b == d))) w := by
  have u3 := Tryz.underlying3
  have a3 := Tryz.isAgg3
  have z3 := Tryz.sizeOf3
  have hS : Tryz.prog.underlying 57 = some (.struct (Tryz.prog.fieldsOf 57)) := by kernel_rfl
  have hp : Tryz.prog.stoodInHeld 57 = false := by kernel_rfl
  rw [run_neq_struct, show (10000 : Nat) = 9999 + 1 from rfl, run_equalIn_agg w 9999 57 _ _ hS hp]
  simp only [Program.fieldsOf, Tryz.underlying57]
  go_simp
  by_cases h1 : a = c <;> by_cases h2 : b = d <;> simp [h1, h2]

def hitT (l : List TTime) (i : Nat) (x o : TTime) (k : Nat) : Bool := goodT o && leT o x && (!sameT o x || decide (k < i))
theorem skip_hit {l : List TTime} {i k : Nat} {x o : TTime} (hk : k < l.length) (ho : l[k] = o) (h : hitT l i x o k = true) : skipT l i x = true := by
  unfold skipT
  rw [Bool.or_eq_true]
  right
  refine List.any_eq_true.2 ⟨k, List.mem_range.2 hk, ?_⟩
  simp only [List.getElem?_eq_getElem hk, ho]
  exact h
theorem skip_none {l : List TTime} {i : Nat} {x : TTime} (hx : goodT x = true) (h : ∀ k (hk : k < l.length), hitT l i x l[k] k = false) : skipT l i x = false := by
  unfold skipT
  rw [Bool.or_eq_false_iff]
  refine ⟨by simp [hx], List.any_eq_false.2 fun k hk => ?_⟩
  have hk' := List.mem_range.1 hk
  simp only [List.getElem?_eq_getElem hk']
  have := h k hk'
  unfold hitT at this
  simpa using this
theorem cand_skip {l : List TTime} {i : Nat} {x : TTime} (hi : i < l.length) (hx : l[i] = x) (h : skipT l i x = true) : candT l (i + 1) = candT l i := by
  simp [candT, List.getElem?_eq_getElem hi, hx, h]
theorem cand_add {l : List TTime} {i : Nat} {x : TTime} (hi : i < l.length) (hx : l[i] = x) (h : skipT l i x = false) : candT l (i + 1) = candT l i ++ [x] := by
  simp [candT, List.getElem?_eq_getElem hi, hx, h]

set_option maxRecDepth 100000 in
set_option maxHeartbeats 4000000 in
theorem front_any (l : List TTime) (ao : Option Addr) (c1 : Nat) (w : World) (B : Nat) (hB : B ≤ w.heap.size) (hl : SlA B 2 (RTime B) w ao c1 l) (hreach : l.length * 16 ≤ 140737488351232) :
    Calls Tryz.prog 76 #[.slice ao l.length c1] w fun e w' => ∃ v f, e = .returned v ∧ OwnT w' w.heap.size v f ∧ IsFront l f ∧ Below w.heap.size w w' := by
  have hwf := Lib.hid (wf_of_sla hl)
  obtain ⟨i0, hi, hz0, hz1, hz2⟩ := info_parts infoT
  obtain ⟨n, hn⟩ : ∃ n, n = l.length := ⟨_, rfl⟩
  rw [← hn]
  rw [← hn] at hreach
  replace hn := Lib.hid hn
  go_enter Tryz.func76, Tryz.ntmps76
  go_wp2_with fail
  go_step3
  go_wp2_with fail
  go_step3
  go_wp2_with fail
  go_loopg [3, 10] n (fun g v i wr => ∃ (k : Nat), k + g = n ∧ i = .int .i64 k ∧ OwnT wr w.heap.size v (candT l k) ∧ Below w.heap.size w wr)
  case atStart => exact ⟨0, by omega, rfl, OwnT.nil _ _, Below.refl _ _⟩
  case round =>
    obtain ⟨k, hk, rfl, hown, hbel⟩ := hrel
    have hsz := hbel.size
    cases gk with
    | succ g =>
      have hlt : k < n := by omega
      have hkl : k < l.length := by rw [← hn.out]; exact hlt
      obtain ⟨b1, o1, rfl, hb1, _⟩ := hl.addr (by omega)
      obtain ⟨x, hx⟩ : ∃ x, l[k] = x := ⟨_, rfl⟩
      obtain ⟨e0, e1, _, _⟩ := RTime.at (imp_times hl (hbel.mono hB)) hkl hx
      have hg := fun W => good_t x W
      have hxw : wfT x := hwf.out x (by rw [← hx]; exact List.getElem_mem hkl)
      have cs := cand_skip hkl hx
      have ca := cand_add hkl hx
      cases h1 : goodT x with
      | false =>
        have hcs := cs (by simp [skipT, h1])
        rw [h1] at hg
        rw [← hcs] at hown
        clear h1 cs ca hx hcs
        go_wp2_with fail
        refine (hg _).mono ?_
        rintro e w2 ⟨rfl, b2⟩
        have b3 : Below wr.heap.size wr w2 := ((Below.refl _ _).alloc (Nat.le_refl _) _).trans (b2.mono (by simp))
        have hbu := hbel.trans (b3.mono hsz)
        have hown2 := hown.below b3 (Nat.le_refl _)
        clear hg
        go_wp2_with fail
        go_roundg g
        case rel => exact ⟨k + 1, by omega, by go_num, hown2, hbu⟩
        case measure => omega
      | true =>
        rw [h1] at hg
        replace h1 := Lib.hid h1
        replace cs := Lib.hid cs
        replace ca := Lib.hid ca
        replace hx := Lib.hid hx
        go_wp2_with fail
        refine (hg _).mono ?_
        rintro e w2 ⟨rfl, b2⟩
        have b3 : Below wr.heap.size wr w2 := ((Below.refl _ _).alloc (Nat.le_refl _) _).trans (b2.mono (by simp))
        have hbu := hbel.trans (b3.mono hsz)
        have hown2 := hown.below b3 (Nat.le_refl _)
        have hT : Blk w2 wr.heap.size #[.int .i64 x.fEpoch, .int .i64 x.fRound] 57 := (Blk.new _ _ _).below b2 (by simp)
        obtain ⟨tb, htb⟩ : ∃ tb, tb = wr.heap.size := ⟨_, rfl⟩
        rw [← htb] at hT ⊢
        clear hg b2 htb e0 e1
        go_wp2_with fail
        go_loopg [20] n (fun gg i wx => ∃ (j : Nat), j + gg = n ∧ i = .int .i64 j ∧ Below w2.heap.size w2 wx ∧ Hid (∀ q (hq : q < l.length), q < j → hitT l k x l[q] q = false))
        case atStart => exact ⟨0, by omega, rfl, Below.refl _ _, Lib.hid (fun q _ h => absurd h (Nat.not_lt_zero _))⟩
        case round =>
          obtain ⟨j, hj, rfl, hbx, hno⟩ := hrel
          have hszx := hbx.size
          cases gk with
          | succ gg =>
            have hltj : j < n := by omega
            have hjl : j < l.length := by rw [← hn.out]; exact hltj
            obtain ⟨y, hy⟩ : ∃ y, l[j] = y := ⟨_, rfl⟩
            have hbw := hbu.trans (hbx.mono hbu.size)
            obtain ⟨g0, g1, _, _⟩ := RTime.at (imp_times hl (hbw.mono hB)) hjl hy
            have hTx := hT.below hbx hT.lt
            have t0 := hTx.cellAt (i := 0) (v := .int .i64 x.fEpoch) rfl
            have t1 := hTx.cellAt (i := 1) (v := .int .i64 x.fRound) rfl
            have htl := hTx.lt
            have hg := fun W => good_t y W
            have hle := fun W => le_t y x W
            have hneq := fun W => neq_time y.fEpoch y.fRound x.fEpoch x.fRound W
            have hb1x : b1 < wr.heap.size := by have := hbw.size; omega
            have hsm : (y.fEpoch == x.fEpoch && y.fRound == x.fRound) = sameT y x := by
              unfold sameT
              rw [Bool.eq_iff_iff]; simp
            simp only [hsm] at hneq
            have hgo : hitT l k x y j = false → ∀ q (hq : q < l.length), q < j + 1 → hitT l k x l[q] q = false := fun h q hq hqj => by
              by_cases he : q = j
              · subst he; rw [hy]; exact h
              · exact hno.out q hq (by omega)
            have hhit : hitT l k x y j = true → candT l (k + 1) = candT l k := fun h => cs.out (skip_hit hjl hy h)
            replace hgo := Lib.hid hgo
            replace hhit := Lib.hid hhit
            clear hy hsm hT hTx hno
            cases h2 : goodT y with
            | false =>
              have hno2 := Lib.hid (hgo.out (by simp [hitT, h2]))
              rw [h2] at hg
              clear h2 hgo hhit hneq hle
              go_wp2_with fail
              refine (hg _).mono ?_
              rintro e w4 ⟨rfl, b4⟩
              have b5 : Below w2.heap.size w2 w4 := hbx.trans ((((Below.refl _ _).alloc (Nat.le_refl _) _).trans (b4.mono (by simp))).mono hszx)
              clear hg
              go_wp2_with fail
              go_roundg gg
              case measure => omega
              case rel => exact ⟨j + 1, by omega, by go_num, b5, hno2⟩
            | true =>
              rw [h2] at hg
              cases h3 : leT y x with
              | false =>
                have hno2 := Lib.hid (hgo.out (by simp [hitT, h3]))
                rw [h3] at hle
                clear h2 h3 hgo hhit hneq
                go_wp2_with fail
                refine (hg _).mono ?_
                rintro e w4 ⟨rfl, b4⟩
                obtain ⟨hc4, hf4⟩ := bcell b4
                clear hg
                go_wp2_with fail
                refine (hle _).mono ?_
                rintro e w5 ⟨rfl, b5⟩
                have b6 : Below w2.heap.size w2 w5 := hbx.trans ((((Below.refl _ _).alloc (Nat.le_refl _) _).trans ((b4.trans (b5.mono b4.size)).mono (by simp))).mono hszx)
                clear hle hc4 hf4
                go_wp2_with fail
                go_roundg gg
                case measure => omega
                case rel => exact ⟨j + 1, by omega, by go_num, b6, hno2⟩
              | true =>
                rw [h3] at hle
                cases h4 : sameT y x with
                | false =>
                  have hca := hhit.out (by simp [hitT, h2, h3, h4])
                  rw [← hca] at hown2
                  rw [h4] at hneq
                  clear h2 h3 h4 hgo hhit hca
                  go_wp2_with fail
                  refine (hg _).mono ?_
                  rintro e w4 ⟨rfl, b4⟩
                  obtain ⟨hc4, hf4⟩ := bcell b4
                  clear hg
                  go_wp2_with fail
                  refine (hle _).mono ?_
                  rintro e w5 ⟨rfl, b5⟩
                  have hc5 : ∀ b o, b < wr.heap.size + 1 → w5.cell? ⟨b, o, none⟩ = (wr.alloc (.cells #[.int .i64 y.fEpoch, .int .i64 y.fRound] 57)).cell? ⟨b, o, none⟩ := fun b o h => (b5.cell (p := ⟨b, o, none⟩) (by have := b4.size; simp at this; simp; omega)).trans (b4.cell (p := ⟨b, o, none⟩) (by simpa using h))
                  have b6 : Below w2.heap.size w2 w5 := hbx.trans ((((Below.refl _ _).alloc (Nat.le_refl _) _).trans ((b4.trans (b5.mono b4.size)).mono (by simp))).mono hszx)
                  have hbu6 := hbu.trans (b6.mono hbu.size)
                  have hown6 := hown2.below b6 (Nat.le_refl _)
                  clear hle hc4 hf4 b4 b5
                  go_wp2_with fail
                  go_roundg g
                  case measure => omega
                  case rel => exact ⟨k + 1, by omega, by go_num, hown6, hbu6⟩
                | true =>
                  rw [h4] at hneq
                  by_cases hjk : j < k
                  · have hca := hhit.out (by simp [hitT, h2, h3, hjk])
                    rw [← hca] at hown2
                    clear h2 h3 h4 hgo hhit hca
                    go_wp2_with fail
                    refine (hg _).mono ?_
                    rintro e w4 ⟨rfl, b4⟩
                    obtain ⟨hc4, hf4⟩ := bcell b4
                    clear hg
                    go_wp2_with fail
                    refine (hle _).mono ?_
                    rintro e w5 ⟨rfl, b5⟩
                    have hc5 : ∀ b o, b < wr.heap.size + 1 → w5.cell? ⟨b, o, none⟩ = (wr.alloc (.cells #[.int .i64 y.fEpoch, .int .i64 y.fRound] 57)).cell? ⟨b, o, none⟩ := fun b o h => (b5.cell (p := ⟨b, o, none⟩) (by have := b4.size; simp at this; simp; omega)).trans (b4.cell (p := ⟨b, o, none⟩) (by simpa using h))
                    have b6 : Below w2.heap.size w2 w5 := hbx.trans ((((Below.refl _ _).alloc (Nat.le_refl _) _).trans ((b4.trans (b5.mono b4.size)).mono (by simp))).mono hszx)
                    have hbu6 := hbu.trans (b6.mono hbu.size)
                    have hown6 := hown2.below b6 (Nat.le_refl _)
                    clear hle hc4 hf4 b4 b5
                    go_wp2_with fail
                    go_roundg g
                    case measure => omega
                    case rel => exact ⟨k + 1, by omega, by go_num, hown6, hbu6⟩
                  · have hno2 := Lib.hid (hgo.out (by simp [hitT, h4, hjk]))
                    clear h2 h3 h4 hgo hhit
                    go_wp2_with fail
                    refine (hg _).mono ?_
                    rintro e w4 ⟨rfl, b4⟩
                    obtain ⟨hc4, hf4⟩ := bcell b4
                    clear hg
                    go_wp2_with fail
                    refine (hle _).mono ?_
                    rintro e w5 ⟨rfl, b5⟩
                    have hc5 : ∀ b o, b < wr.heap.size + 1 → w5.cell? ⟨b, o, none⟩ = (wr.alloc (.cells #[.int .i64 y.fEpoch, .int .i64 y.fRound] 57)).cell? ⟨b, o, none⟩ := fun b o h => (b5.cell (p := ⟨b, o, none⟩) (by have := b4.size; simp at this; simp; omega)).trans (b4.cell (p := ⟨b, o, none⟩) (by simpa using h))
                    have b6 : Below w2.heap.size w2 w5 := hbx.trans ((((Below.refl _ _).alloc (Nat.le_refl _) _).trans ((b4.trans (b5.mono b4.size)).mono (by simp))).mono hszx)
                    clear hle hc4 hf4 b4 b5
                    go_wp2_with fail
                    go_roundg gg
                    case measure => omega
                    case rel => exact ⟨j + 1, by omega, by go_num, b6, hno2⟩
          | zero =>
            have hca := ca.out (skip_none h1.out (fun q hq => hno.out q hq (by have := hn.out; omega)))
            have hTx := hT.below hbx hT.lt
            have t0 := hTx.cellAt (i := 0) (v := .int .i64 x.fEpoch) rfl
            have t1 := hTx.cellAt (i := 1) (v := .int .i64 x.fRound) rfl
            have htl := hTx.lt
            have hbw := hbu.trans (hbx.mono hbu.size)
            have hown3 := hown2.below hbx (Nat.le_refl _)
            have hcl := candT_len l k
            have hltj : ¬ ((j : Int) < (n : Int)) := by omega
            replace hca := Lib.hid hca
            obtain ⟨cl, hcl'⟩ : ∃ cl, cl = candT l k := ⟨_, rfl⟩
            rw [← hcl'] at hown3 hcl
            rw [← hcl'] at hca
            obtain ⟨ec, rc, hxe⟩ : ∃ a b, x = ⟨a, b⟩ := ⟨_, _, rfl⟩
            subst hxe
            clear hcl' hT hTx hown hown2 hno
            go_wp2_with (at_builtin; (refine wpList_app1 rfl _ _ 49 rfl Tryz.underlying49 hi hz0 hz1 hz2 rfl (by decide) (enc := encT) ⟨ec, rc⟩ rfl hown3.1 rfl (encT_len _) (encT_one _) ?hb1 ?hb2 hbw.size ?next))
            case hb1 => omega
            case hb2 => unfold maxLen; omega
            case next =>
            intro a1 cp1 w4 hown4 hb4 _
            have hbu4 := hbw.trans hb4
            have hwL : ∀ z ∈ cl, wfT z := hown3.2
            clear hb4 hown3
            go_wp2_with fail
            go_roundg g
            case measure => omega
            case rel =>
              refine ⟨k + 1, by omega, by go_num, ?_, hbu4⟩
              rw [hca.out]
              refine ⟨hown4, ?_⟩
              intro z hz
              simp only [List.mem_append, List.mem_singleton] at hz
              rcases hz with hz | rfl
              · exact hwL z hz
              · exact hxw
    | zero =>
      obtain rfl : k = n := by omega
      have hcl := candT_len l k
      have hlt : ¬ ((k : Int) < (k : Int)) := by omega
      have hso := sort_any (candT l k) u3 wr w.heap.size hown (by omega)
      have hfr : ∀ ys : List TTime, ys.Perm (candT l k) → (ys.Pairwise fun a b => a.fEpoch ≤ b.fEpoch) → IsFront l ys := fun ys h1 h2 => front_of_sorted (by rw [← hn.out]; exact h1) h2
      replace hfr := Lib.hid hfr
      have hob := hown.1.lt
      go_wp2_with fail
      refine hso.mono ?_
      rintro e w5 ⟨rfl, ys, hyl, hyp, hys, hown5, hg5⟩
      have hb5 : Below w.heap.size w w5 := hbel.grown hg5 hsz (fun q hq => (hob q hq).1)
      have hf5 := Lib.hid (hfr.out ys hyp hys)
      clear hyp hys hyl hso
      go_wp2_with fail
      try rw [Exit.noGoto_ret]
      go_ret
      exact ⟨_, ys, rfl, hown5, hf5.out, hb5⟩
end Go.Proofs.YtjmbafcpbagpdaaGreat
