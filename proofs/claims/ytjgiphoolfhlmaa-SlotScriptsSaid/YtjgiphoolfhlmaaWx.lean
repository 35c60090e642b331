/- Wire: Decode, and the reference's. -/
import Derived.Test.YtjgiphoolfhlmaaWw
namespace Go.Proofs.Ytjgiphoolfhlmaa
open Go.RowKit
set_option linter.unusedVariables false

/-- The items of bytes: g: how many rounds may come. -/
def decF : Nat → Nat → List Itm → List Nat → Nat × List Itm
  | 0, _, acc, _ => (0, acc)
  | _ + 1, _, acc, [] => (0, acc)
  | g + 1, cnt, acc, k :: r => if (rdI 8 cnt (k :: r)).1 ≠ 0 then ((rdI 8 cnt (k :: r)).1, []) else decF g (rdI 8 cnt (k :: r)).2.2.2 (acc ++ [(rdI 8 cnt (k :: r)).2.1]) (rdI 8 cnt (k :: r)).2.2.1
def decV (bs : List Nat) : Nat × List Itm := if 65536 < bs.length then (2, []) else decF 4097 0 [] bs
/-- What Decode answers. -/
def DecR (w : World) (r : Nat × List Itm) (e : Ending) (w' : World) : Prop :=
  Below w.heap.size w w' ∧ ∃ ao cap, e = .returned (.tuple #[.slice ao r.2.length cap, .int .i64 r.1]) ∧ RItsP 8 (fun b => w.heap.size ≤ b ∧ b < w'.heap.size) w' ao cap r.2

/-- Items of a row to which one is appended. -/
theorem elems_grow {d : Nat} {w0 w6 w7 w8 : World} {lo g cap7 : Nat} {v : Value} {ps : List PIt} {p : PIt} {rb : Nat} (hgr : Grew w6 v w7 (.slice (some ⟨g, 0, none⟩) (ps.length + 1) cap7)) (hlo : ∀ b, v.ownBlock = some b → lo < b ∧ b < w0.heap.size) (hrb : rb ≤ lo)
    (hch : Chg (fun k => k = rb) w0 w6) (h8 : ∀ b, lo < b → b < w7.heap.size → w8.heap[b]? = w7.heap[b]?) (hs8 : w8.heap.size = w7.heap.size)
    (hels : ∀ q ∈ ps, RItP d (fun b => lo < b ∧ b < w0.heap.size ∧ v.ownBlock ≠ some b) w0 (encP q) q.x)
    (hit : RItP d (fun b => w0.heap.size ≤ b ∧ b < w6.heap.size) w6 (encP p) p.x) (hl0 : lo < w0.heap.size) :
    ∀ q ∈ ps ++ [p], RItP d (fun b => lo < b ∧ b < w8.heap.size ∧ (Value.slice (some ⟨g, 0, none⟩) (ps.length + 1) cap7).ownBlock ≠ some b) w8 (encP q) q.x := by
  have hs6 := hch.size
  have hs7 := hgr.grown.size
  have hplace : ∀ b, b < w6.heap.size → v.ownBlock ≠ some b → (Value.slice (some ⟨g, 0, none⟩) (ps.length + 1) cap7).ownBlock ≠ some b := fun b hb hbo h => by
    rcases hgr.place with e | ⟨g', e, hg'⟩
    · rw [e] at h; exact hbo h
    · rw [e] at h; cases h; omega
  intro q hq
  rcases List.mem_append.1 hq with hq | hq
  · refine (hels q hq).imp fun b hb => ⟨⟨hb.1, by omega, hplace b (by omega) hb.2.2⟩, ?_⟩
    rw [h8 b hb.1 (by omega), hgr.grown.block b (by omega) (Ne.symm hb.2.2)]
    exact hch.block b hb.2.1 (by omega)
  · obtain rfl : q = p := by simpa using hq
    have hbo : ∀ b, w0.heap.size ≤ b → v.ownBlock ≠ some b := fun b hb h => by have := hlo b h; omega
    refine hit.imp fun b hb => ⟨⟨by omega, by omega, hplace b hb.2 (hbo b hb.1)⟩, ?_⟩
    rw [h8 b (by omega) (by omega)]
    exact hgr.grown.block b hb.2 (Ne.symm (hbo b hb.1))

set_option maxRecDepth 100000 in
set_option maxHeartbeats 4000000 in
theorem decode_any (bs : List Nat) (hbs : ∀ x ∈ bs, x < 256) (ao : Option Addr) (cap : Nat) (w : World) (hby : RBy w.heap.size w ao cap bs) :
    Calls Try.prog 35 #[.slice ao bs.length cap] w (DecR w (decV bs)) := by
  have hlen := SlA.len hby
  obtain ⟨res, hres⟩ : ∃ r, r = decV bs := ⟨_, rfl⟩
  rw [← hres]
  unfold decV at hres
  obtain ⟨n, hn⟩ : ∃ n, n = bs.length := ⟨_, rfl⟩
  rw [← hn] at hlen hres ⊢
  replace hn := Lib.hid hn
  replace hres := Lib.hid hres
  go_enter Try.func35, Try.ntmps35
  by_cases hbig : 65536 < n
  · have hd : decide ((65536 : Int) < (n : Int)) = true := by simp; omega
    have hrv := hres.out
    rw [if_pos hbig] at hrv
    subst hrv
    clear hres
    go_wp2_with fail
    go_ret2
    exact ⟨(by repeat (first | exact Below.refl _ _ | refine below_drewN ?_ _ | refine Below.drew ?_ | (refine Below.alloc ?_ (by simp; try omega) _))), none, 0, rfl, RItsP.nil _ _ _⟩
  · have hd : decide ((65536 : Int) < (n : Int)) = false := by simp; omega
    rw [if_neg hbig] at hres
    go_upto_region 4 with fail
    refine Code.wp_world ?_
    intro w1 hw1
    obtain ⟨rb, hrb⟩ : ∃ c, c = w.heap.size := ⟨_, rfl⟩
    have hR1 : Blk w1 rb #[.slice ao n cap, .int .i64 (0 : Nat), .int .i64 (0 : Nat)] 112 := by
      rw [hw1, hrb]
      exact Blk.new _ _ _
    have hb1 : Below w.heap.size w w1 := by rw [hw1]; exact below_alloc1 _ _
    have hs1 : rb < w1.heap.size := hR1.lt
    rw [← hrb]
    clear hw1
    replace hrb := Lib.hid hrb
    obtain ⟨j0, hi, hz0, hz1, hz2⟩ := info_parts infoI
    go_wp2_with fail
    go_loopg [5] 4097 (fun g v wr => ∃ (ps : List PIt) (at_ cnt : Nat), at_ ≤ n ∧ cnt ≤ 4096 ∧ 4097 ≤ g + cnt ∧ Blk wr rb #[.slice ao n cap, .int .i64 at_, .int .i64 cnt] 112 ∧ Below w.heap.size w wr ∧
      OwnL encP wr (rb + 1) 63 4 v ps ∧ (∀ p ∈ ps, RItP 8 (fun b => rb < b ∧ b < wr.heap.size ∧ v.ownBlock ≠ some b) wr (encP p) p.x) ∧ rb < wr.heap.size ∧ ps.length ≤ cnt ∧ Hid (res = decF g cnt (ps.map (·.x)) (bs.drop at_)))
    case atStart => exact ⟨[], 0, 0, Nat.zero_le _, by omega, by omega, hR1, hb1, OwnL.nil _ _ _ _ _, by simp, hs1, by simp, by rw [List.drop_zero]; exact hres⟩
    case round =>
      clear hR1 hb1 hs1 hres
      obtain ⟨ps, at_, cnt, hat, hcnt, hgc, hR, hbel, hown, hels, hrw, hpc, hinv⟩ := hrel
      rename_i v0
      obtain ⟨aov, capv, hvv, _, _, _⟩ := hown.slice
      subst hvv
      have q0 : wr.cell? ⟨rb, 0, none⟩ = some (.slice ao n cap) := hR.cellAt rfl
      have q1 : wr.cell? ⟨rb, 1, none⟩ = some (.int .i64 at_) := hR.cellAt rfl
      by_cases hlt : at_ < n
      · cases gk with
        | zero => omega
        | succ g =>
          have hpl : at_ < bs.length := by rw [← hn.out]; exact hlt
          have hcall := ritem_any 8 1 bs ao cap at_ cnt rb wr w.heap.size (by omega) hbs (by rw [← hn.out]; omega) (hby.imp hbel (Nat.le_refl _)) (by rw [← hn.out]; exact hR) (by rw [hrb.out]; exact Nat.le_refl _) (by rw [← hn.out]; exact hat) hcnt
          rw [← hn.out] at hcall
          have hxc := rdI_cnt 8 cnt (bs.drop at_)
          have hdc : bs.drop at_ = bs[at_] :: bs.drop (at_ + 1) := List.drop_eq_getElem_cons hpl
          rw [hdc, decF, ← hdc] at hinv
          obtain ⟨⟨xe, xi, xr, xc⟩, hx⟩ : ∃ x, x = rdI 8 cnt (bs.drop at_) := ⟨_, rfl⟩
          rw [← hx] at hcall hxc hinv
          dsimp only at hinv hxc
          clear hx hdc
          go_wp2_with (go_at_call 56; refine Shut.out ?kit)
          unfold Shut
          refine hcall.mono ?_
          rintro e w5 ⟨cs, rfl, hch5, ⟨a', c', hrb5'⟩, hz5, hok5⟩
          dsimp only at hz5 hok5 ⊢
          have hbel5 := hbel.trans (hch5.below (by rw [← hrb.out]; omega) (fun k hk h => by have := hrb.out; omega))
          by_cases hxe : xe = 0
          · subst hxe
            rw [if_neg (by simp)] at hinv
            obtain ⟨hxc1, hxc2⟩ := hxc rfl
            obtain ⟨a5, hit, ha5, hd5, hrb5⟩ := hok5 rfl
            obtain ⟨p, hpx, hpe⟩ := hit.pit
            rw [hpe] at hit
            subst hpx
            obtain rfl : cs = #[.int .i64 p.x.kind, .int .i64 p.x.num, .string p.x.txt, .slice p.ao p.x.lst.length p.cap] := by
              have : cs.toList.toArray = (encP p).toArray := by rw [hpe]
              simpa [encP] using this
            clear hpe
            have hown5 := hown.chg hch5 (fun g hg h => by have := (hown.lt g hg).1; omega)
            go_upto_region 7 with fail
            refine Code.wp_world ?_
            intro w6 hw6
            have hR6 : Blk w6 rb #[.slice ao n cap, .int .i64 a5, .int .i64 xc] 112 := by rw [hw6]; exact hrb5.alloc _
            have hown6 : OwnL encP w6 (rb + 1) 63 4 (.slice aov ps.length capv) ps := by rw [hw6]; exact hown5.alloc _
            have hK6 : Blk w6 w5.heap.size #[.int .i64 p.x.kind, .int .i64 p.x.num, .string p.x.txt, .slice p.ao p.x.lst.length p.cap] 63 := by rw [hw6]; exact Blk.new _ _ _
            have hsz6 : w6.heap.size = w5.heap.size + 1 := by rw [hw6]; simp
            have hch6 : Chg (fun k => k = rb) wr w6 := by rw [hw6]; exact hch5.alloc _
            have hbel6 : Below w.heap.size w w6 := by rw [hw6]; exact Below.alloc hbel5 hbel5.size _
            have hit6 : RItP 8 (fun b => wr.heap.size ≤ b ∧ b < w6.heap.size) w6 (encP p) p.x := by
              refine hit.imp fun b hb => ⟨⟨hb.1, by omega⟩, ?_⟩
              rw [hw6]
              exact (below_alloc1 w5 _).block b hb.2
            have hs5 := hch5.size
            clear hw6 hit hown5 hcall hxc hz5 hok5 hrb5 hrb5' hch5 hbel5 q0 q1
            obtain ⟨kb, hkb⟩ : ∃ c, c = w5.heap.size := ⟨_, rfl⟩
            rw [← hkb] at hK6 hsz6 hs5 ⊢
            clear hkb
            obtain ⟨m0, m1, m2, m3⟩ := blk4 hK6
            have hpl2 : ps.length ≤ 4096 := by omega
            replace hsz6 := Lib.hid hsz6
            go_wp2_with (at_builtin; refine Shut.out ?kap)
            unfold Shut
            refine wpList_app1g rfl _ _ 61 rfl Try.underlying61 hi hz0 hz1 hz2 rfl (by decide) (enc := encP) p rfl hown6 rfl (encP_len _) (encP_one _) (by omega) (by unfold maxLen; omega) (by have := hsz6.out; omega) (fun g7 cap7 w7 hown7 hgr7 => ?_)
            have hnR : (Value.slice aov ps.length capv).ownBlock ≠ some rb := fun h => by have := (hown.lt rb h).1; omega
            have hR7 := hgr7.blk hR6 hnR
            have hbel7 := hbel6.grown hgr7.grown hbel6.size (fun k hk => by have := (hown.lt k hk).1; have := hrb.out; omega)
            have hels8 := elems_grow hgr7 (fun b hb => by have := hown.lt b hb; exact ⟨by omega, this.2⟩) (Nat.le_refl rb) hch6 (w8 := w7) (fun _ _ _ => rfl) rfl hels hit6 hrw
            have hs7 := hgr7.grown.size
            have hs6 := hch6.size
            have hinv8 : Hid (res = decF g xc ((ps ++ [p]).map (·.x)) (bs.drop a5)) := by
              rw [List.map_append, hd5]; exact hinv
            clear hinv hels hit6 hgr7 hown6 hR6 hK6 m0 m1 m2 m3 hown hR
            go_wp2_with fail
            go_roundg g
            case measure => omega
            case rel => exact ⟨ps ++ [p], a5, xc, ha5, hxc2, by omega, hR7, hbel7, hown7, hels8, by omega, by simp; omega, hinv8⟩
          · have hrv := hinv.out
            rw [if_pos hxe] at hrv
            subst hrv
            obtain rfl := hz5 hxe
            have hxd : ((xe : Int) != 0) = true := by simpa using hxe
            unfold zeroC
            clear hels hown hR q0 q1 hinv hok5 hcall hrb5'
            go_wp2_with fail
            go_ret2
            exact ⟨Below.alloc hbel5 hbel5.size _, none, 0, rfl, RItsP.nil _ _ _⟩
      · have hrv : res = (0, ps.map (·.x)) := by
          rw [hinv.out, List.drop_of_length_le (by rw [← hn.out]; omega)]
          cases gk <;> rw [decF]
        subst hrv
        obtain ⟨aoz, capz, hez, hlz⟩ := RItsP.of_own hown (D := fun b => w.heap.size ≤ b ∧ b < wr.heap.size) (fun p hp => (hels p hp).imp fun b hb => ⟨⟨by have := hrb.out; omega, hb.2.1⟩, rfl⟩) (fun g hg => by have := hown.lt g hg; have := hrb.out; omega) (by omega)
        cases hez
        clear hels hown hinv
        go_wp2_with fail
        go_ret2
        exact ⟨hbel, aov, capv, by simp, hlz⟩
set_option maxRecDepth 100000 in
set_option maxHeartbeats 4000000 in
theorem refDecode_any (bs : List Nat) (hbs : ∀ x ∈ bs, x < 256) (ao : Option Addr) (cap : Nat) (w : World) (hby : RBy w.heap.size w ao cap bs) :
    Calls Try.prog 49 #[.slice ao bs.length cap] w (DecR w (decV bs)) := by
  have hlen := SlA.len hby
  obtain ⟨res, hres⟩ : ∃ r, r = decV bs := ⟨_, rfl⟩
  rw [← hres]
  unfold decV at hres
  obtain ⟨n, hn⟩ : ∃ n, n = bs.length := ⟨_, rfl⟩
  rw [← hn] at hlen hres ⊢
  replace hn := Lib.hid hn
  replace hres := Lib.hid hres
  go_enter Try.func49, Try.ntmps49
  by_cases hbig : 65536 < n
  · have hd : decide ((65536 : Int) < (n : Int)) = true := by simp; omega
    have hrv := hres.out
    rw [if_pos hbig] at hrv
    subst hrv
    clear hres
    go_wp2_with fail
    go_ret2
    exact ⟨(by repeat (first | exact Below.refl _ _ | refine below_drewN ?_ _ | refine Below.drew ?_ | (refine Below.alloc ?_ (by simp; try omega) _))), none, 0, rfl, RItsP.nil _ _ _⟩
  · have hd : decide ((65536 : Int) < (n : Int)) = false := by simp; omega
    rw [if_neg hbig] at hres
    go_upto_region 4 with fail
    refine Code.wp_world ?_
    intro w1 hw1
    obtain ⟨rb, hrb⟩ : ∃ c, c = w.heap.size := ⟨_, rfl⟩
    have hR1 : Blk w1 rb #[.slice ao n cap, .int .i64 (0 : Nat), .int .i64 0] 121 := by
      rw [hw1, hrb]
      exact Blk.new _ _ _
    have hb1 : Below w.heap.size w w1 := by rw [hw1]; exact below_alloc1 _ _
    have hs1 : rb < w1.heap.size := hR1.lt
    rw [← hrb]
    clear hw1
    replace hrb := Lib.hid hrb
    obtain ⟨j0, hi, hz0, hz1, hz2⟩ := info_parts infoI
    go_wp2_with fail
    go_loopg [5] 4097 (fun g v wr => ∃ (ps : List PIt) (ao5 : Option Addr) (n5 cap5 cnt : Nat) (bs5 : List Nat), n5 = bs5.length ∧ n5 ≤ 65536 ∧ (∀ x ∈ bs5, x < 256) ∧ RBy w.heap.size wr ao5 cap5 bs5 ∧ cnt ≤ 4096 ∧ 4097 ≤ g + cnt ∧ Blk wr rb #[.slice ao5 n5 cap5, .int .i64 cnt, .int .i64 0] 121 ∧ Below w.heap.size w wr ∧
      OwnL encP wr (rb + 1) 63 4 v ps ∧ (∀ p ∈ ps, RItP 8 (fun b => rb < b ∧ b < wr.heap.size ∧ v.ownBlock ≠ some b) wr (encP p) p.x) ∧ rb < wr.heap.size ∧ ps.length ≤ cnt ∧ Hid (res = decF g cnt (ps.map (·.x)) bs5))
    case atStart => exact ⟨[], ao, n, cap, 0, bs, hn.out, by omega, hbs, hby.imp hb1 (Nat.le_refl _), by omega, by omega, hR1, hb1, OwnL.nil _ _ _ _ _, by simp, hs1, by simp, hres⟩
    case round =>
      clear hR1 hb1 hs1 hres
      obtain ⟨ps, ao5, n5, cap5, cnt, bs5, hn5, hn5l, hb5, hby5, hcnt, hgc, hR, hbel, hown, hels, hrw, hpc, hinv⟩ := hrel
      rename_i v0
      obtain ⟨aov, capv, hvv, _, _, _⟩ := hown.slice
      subst hvv
      have q0 : wr.cell? ⟨rb, 0, none⟩ = some (.slice ao5 n5 cap5) := hR.cellAt rfl
      have q1 : wr.cell? ⟨rb, 2, none⟩ = some (.int .i64 0) := hR.cellAt rfl
      by_cases hlt : 0 < n5
      · cases gk with
        | zero => omega
        | succ g =>
          have hcall := fitem_any 8 1 bs5 ao5 cap5 cnt rb wr w.heap.size (by omega) hb5 (by omega) hby5 (by rw [← hn5]; exact hR) (by rw [hrb.out]; exact Nat.le_refl _) hcnt
          have hxc := rdI_cnt 8 cnt bs5
          obtain ⟨kx, hkx⟩ := rdI_rest 8 cnt bs5
          have hdc : bs5 ≠ [] := by intro h; rw [h] at hn5; simp at hn5; omega
          obtain ⟨k0, r0, hkr⟩ := List.exists_cons_of_ne_nil hdc
          rw [hkr, decF, ← hkr] at hinv
          obtain ⟨⟨xe, xi, xr, xc⟩, hx⟩ : ∃ x, x = rdI 8 cnt bs5 := ⟨_, rfl⟩
          rw [← hx] at hcall hxc hinv hkx
          dsimp only at hinv hxc hkx
          have hbx : ∀ y ∈ xr, y < 256 := fun y hy => hb5 y (List.mem_of_mem_drop (by rw [← hkx]; exact hy))
          have hlx : xr.length ≤ 65536 := by rw [hkx, List.length_drop]; omega
          have hnd : decide ((0 : Int) < (n5 : Int)) = true := by simp; omega
          clear hx hdc hkr hkx
          replace hn5 := Lib.hid hn5
          go_wp2_with (go_at_call 62; refine Shut.out ?kit)
          unfold Shut
          refine hcall.mono ?_
          rintro e w5 ⟨cs, rfl, hch5, hz5, hok5⟩
          dsimp only at hz5 hok5 ⊢
          have hbel5 := hbel.trans (hch5.below (by rw [← hrb.out]; omega) (fun k hk h => by have := hrb.out; omega))
          by_cases hxe : xe = 0
          · subst hxe
            rw [if_neg (by simp)] at hinv
            obtain ⟨hxc1, hxc2⟩ := hxc rfl
            obtain ⟨hit, ao6, cap6, hrb5, hby6⟩ := hok5 rfl
            obtain ⟨p, hpx, hpe⟩ := hit.pit
            rw [hpe] at hit
            subst hpx
            obtain rfl : cs = #[.int .i64 p.x.kind, .int .i64 p.x.num, .string p.x.txt, .slice p.ao p.x.lst.length p.cap] := by
              have : cs.toList.toArray = (encP p).toArray := by rw [hpe]
              simpa [encP] using this
            clear hpe
            have hown5 := hown.chg hch5 (fun g hg h => by have := (hown.lt g hg).1; omega)
            obtain ⟨n6, hn6⟩ : ∃ k, k = xr.length := ⟨_, rfl⟩
            rw [← hn6] at hrb5
            replace hn6 := Lib.hid hn6
            have q3 : w5.cell? ⟨rb, 2, none⟩ = some (.int .i64 0) := hrb5.cellAt rfl
            go_upto_region 7 with fail
            refine Code.wp_world ?_
            intro w6 hw6
            have hby7 : RBy w.heap.size w6 ao6 cap6 xr := by rw [hw6]; exact hby6.imp (Below.alloc (Below.refl _ _) hbel5.size _) (Nat.le_refl _)
            have hR6 : Blk w6 rb #[.slice ao6 n6 cap6, .int .i64 xc, .int .i64 0] 121 := by rw [hw6]; exact hrb5.alloc _
            have hown6 : OwnL encP w6 (rb + 1) 63 4 (.slice aov ps.length capv) ps := by rw [hw6]; exact hown5.alloc _
            have hK6 : Blk w6 w5.heap.size #[.int .i64 p.x.kind, .int .i64 p.x.num, .string p.x.txt, .slice p.ao p.x.lst.length p.cap] 63 := by rw [hw6]; exact Blk.new _ _ _
            have hsz6 : w6.heap.size = w5.heap.size + 1 := by rw [hw6]; simp
            have hch6 : Chg (fun k => k = rb) wr w6 := by rw [hw6]; exact hch5.alloc _
            have hbel6 : Below w.heap.size w w6 := by rw [hw6]; exact Below.alloc hbel5 hbel5.size _
            have hit6 : RItP 8 (fun b => wr.heap.size ≤ b ∧ b < w6.heap.size) w6 (encP p) p.x := by
              refine hit.imp fun b hb => ⟨⟨hb.1, by omega⟩, ?_⟩
              rw [hw6]
              exact (below_alloc1 w5 _).block b hb.2
            have hs5 := hch5.size
            clear hw6 hit hown5 hcall hxc hz5 hok5 hrb5 hby6 hch5 hbel5 q0 q1 q3 hb5 hby5 hn5
            have q3 : w6.cell? ⟨rb, 2, none⟩ = some (.int .i64 0) := hR6.cellAt rfl
            obtain ⟨kb, hkb⟩ : ∃ c, c = w5.heap.size := ⟨_, rfl⟩
            rw [← hkb] at hK6 hsz6 hs5 ⊢
            clear hkb
            obtain ⟨m0, m1, m2, m3⟩ := blk4 hK6
            have hpl2 : ps.length ≤ 4096 := by omega
            replace hsz6 := Lib.hid hsz6
            go_wp2_with (at_builtin; refine Shut.out ?kap)
            unfold Shut
            refine wpList_app1g rfl _ _ 61 rfl Try.underlying61 hi hz0 hz1 hz2 rfl (by decide) (enc := encP) p rfl hown6 rfl (encP_len _) (encP_one _) (by omega) (by unfold maxLen; omega) (by have := hsz6.out; omega) (fun g7 cap7 w7 hown7 hgr7 => ?_)
            have hnR : (Value.slice aov ps.length capv).ownBlock ≠ some rb := fun h => by have := (hown.lt rb h).1; omega
            have hR7 := hgr7.blk hR6 hnR
            have hbel7 := hbel6.grown hgr7.grown hbel6.size (fun k hk => by have := (hown.lt k hk).1; have := hrb.out; omega)
            have hels8 := elems_grow hgr7 (fun b hb => by have := hown.lt b hb; exact ⟨by omega, this.2⟩) (Nat.le_refl rb) hch6 (w8 := w7) (fun _ _ _ => rfl) rfl hels hit6 hrw
            have hs7 := hgr7.grown.size
            have hs6 := hch6.size
            have hinv8 : Hid (res = decF g xc ((ps ++ [p]).map (·.x)) xr) := by
              rw [List.map_append]; exact hinv
            have hby8 : RBy w.heap.size w7 ao6 cap6 xr := hby7.imp ((Below.refl _ _).grown hgr7.grown hbel6.size (fun k hk => by have := (hown.lt k hk).1; have := hrb.out; omega)) (Nat.le_refl _)
            clear hinv hels hit6 hgr7 hown6 hR6 hK6 m0 m1 m2 m3 hown hR hby7 q3
            go_wp2_with fail
            go_roundg g
            case measure => omega
            case rel => exact ⟨ps ++ [p], ao6, n6, cap6, xc, xr, hn6.out, by rw [hn6.out]; exact hlx, hbx, hby8, hxc2, by omega, hR7, hbel7, hown7, hels8, by omega, by simp; omega, hinv8⟩
          · have hrv := hinv.out
            rw [if_pos hxe] at hrv
            subst hrv
            obtain ⟨hz, ao6, n6, cap6, c6, hrb5⟩ := hz5 hxe
            subst hz
            have hxd : ((xe : Int) != 0) = true := by simpa using hxe
            unfold zeroC
            go_upto_region 7 with fail
            refine Code.wp_world ?_
            intro w6 hw6
            have hR6 : Blk w6 rb #[.slice ao6 n6 cap6, .int .i64 c6, .int .i64 xe] 121 := by rw [hw6]; exact hrb5.alloc _
            have hbel6 : Below w.heap.size w w6 := by rw [hw6]; exact Below.alloc hbel5 hbel5.size _
            have q3 : w6.cell? ⟨rb, 2, none⟩ = some (.int .i64 xe) := hR6.cellAt rfl
            clear hels hown hR q0 q1 hinv hok5 hcall hrb5 hw6 hz5
            go_wp2_with fail
            go_quiet (fail)
            go_wp2_with fail
            go_ret2
            exact ⟨below_drewN hbel6 _, none, 0, rfl, RItsP.nil _ _ _⟩
      · have hrv : res = (0, ps.map (·.x)) := by
          have h0 : bs5 = [] := List.length_eq_zero_iff.1 (by omega)
          rw [hinv.out, h0]
          cases gk <;> rw [decF]
        subst hrv
        obtain ⟨aoz, capz, hez, hlz⟩ := RItsP.of_own hown (D := fun b => w.heap.size ≤ b ∧ b < wr.heap.size) (fun p hp => (hels p hp).imp fun b hb => ⟨⟨by have := hrb.out; omega, hb.2.1⟩, rfl⟩) (fun g hg => by have := hown.lt g hg; have := hrb.out; omega) (by omega)
        cases hez
        have hnd : decide ((0 : Int) < (n5 : Int)) = false := by simp; omega
        replace hn5 := Lib.hid hn5
        clear hels hown hinv
        go_wp2_with fail
        go_ret2
        exact ⟨hbel, aov, capv, by simp, hlz⟩
end Go.Proofs.Ytjgiphoolfhlmaa
