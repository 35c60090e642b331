/- Disk: DiskKeeps: the walk. -/
import Derived.Test.YtjhbeahkojippaaDu
namespace Go.Proofs.Ytjhbeahkojippaa
open Go.RowKit Go.Maps
attribute [local go_sem] Oper.semAt_some conv_const
set_option linter.unusedVariables false
set_option linter.unusedSimpArgs false

theorem bA (d : List UInt8) : bytesOf (KA d).now sA = d ∧ (getL (KA d).now sA).isSome = true := by simp [KA, bytesOf, getL]
theorem bB (d : List UInt8) : bytesOf (KB d).safe sA = d ∧ (getL (KB d).safe sA).isSome = true := by simp [KB, bytesOf, getL]
theorem own_blk {w : World} {base g n cap : Nat} {bs : List UInt8} (h : OwnL encU w base 5 1 (.slice (some ⟨g, 0, none⟩) n cap) bs) : ∃ cells, Blk w g cells 5 := by
  rcases h.form with ⟨h1, _⟩ | ⟨g', cap', cells, h1, h2, _⟩
  · cases h1
  · simp only [Value.slice.injEq, Option.some.injEq, Addr.mk.injEq] at h1
    rw [h1.1.1]
    exact ⟨cells, h2⟩
theorem own_blk2 {w : World} {base : Nat} {v : Value} {bs : List UInt8} (h : OwnL encU w base 5 1 v bs) : ∀ q, v.ownBlock = some q → ∃ cells, Blk w q cells 5 := fun q hq => by
  rcases h.form with ⟨h1, _⟩ | ⟨g', cap', cells, h1, h2, _⟩
  · rw [h1] at hq; cases hq
  · rw [h1] at hq
    obtain rfl : g' = q := by simpa [Value.ownBlock] using hq
    exact ⟨cells, h2⟩
theorem apart5 {w : World} {lo : Nat} (s0 s1 s2 s3 s4 : Sl) (L H : Nat → Nat)
    (hr : ∀ (j : Nat) (s : Sl), [s0, s1, s2, s3, s4][j]? = some s → (∃ base bs, OwnL encU w base 5 1 (sv s) bs ∧ bs.length = s.len) ∧ s.len ≤ 600000 ∧ ∀ q, (sv s).ownBlock = some q → L j ≤ q ∧ q < H j)
    (hLH : ∀ j1 j2, j1 < 5 → j2 < 5 → j1 ≠ j2 → H j1 ≤ L j2 ∨ H j2 ≤ L j1) (hlo : ∀ j, j < 5 → lo ≤ L j) (hlw : lo ≤ w.heap.size) :
    Calls Try.prog 21 #[.slice (some ⟨w.heap.size, 0, none⟩) 5 5] (w.alloc (.cells #[sv s0, sv s1, sv s2, sv s3, sv s4] 23)) fun e w' => e = .returned (.bool true) ∧
      ∃ S : Nat → Prop, (∀ q, S q → (∃ j, j < 5 ∧ L j ≤ q ∧ q < H j) ∧ ∃ cells, Blk (w.alloc (.cells #[sv s0, sv s1, sv s2, sv s3, sv s4] 23)) q cells 5) ∧ Chg S (w.alloc (.cells #[sv s0, sv s1, sv s2, sv s3, sv s4] 23)) w' := by
  have hba := belowAlloc w (.cells #[sv s0, sv s1, sv s2, sv s3, sv s4] 23)
  have hj5 : ∀ (j : Nat) (s : Sl), [s0, s1, s2, s3, s4][j]? = some s → j < 5 := fun j s h => by
    have := (List.getElem?_eq_some_iff.1 h).1
    simpa using this
  have h := apart_any [s0, s1, s2, s3, s4] w.heap.size (w.alloc (.cells #[sv s0, sv s1, sv s2, sv s3, sv s4] 23)) (by simp) (Blk.new _ _ _)
    (fun j s hs => by
      obtain ⟨⟨base, bs, h1, h2⟩, _, _⟩ := hr j s hs
      rw [← h2]
      exact RowJ.of_own (h1.below hba (Nat.le_refl _)) j)
    (fun j1 j2 s t h1 h2 hne => by
      cases hq : (sv s).ownBlock with
      | none => exact .inl rfl
      | some q =>
        right
        intro e
        have r1 := (hr j1 s h1).2.2 q hq
        have r2 := (hr j2 t h2).2.2 q e.symm
        rcases hLH j1 j2 (hj5 _ _ h1) (hj5 _ _ h2) hne with h | h <;> omega)
    (fun s hs => by
      obtain ⟨j, hj⟩ := List.getElem?_of_mem hs
      exact (hr j s hj).2.1) lo
    (fun j s q hs hq => by
      have := (hr j s hs).2.2 q hq
      have := hlo j (hj5 _ _ hs)
      omega) (by simp; omega)
  refine h.mono ?_
  rintro e w' ⟨he, hc⟩
  refine ⟨he, _, ?_, hc⟩
  rintro q ⟨s, hs, hq⟩
  obtain ⟨j, hj⟩ := List.getElem?_of_mem hs
  obtain ⟨⟨base, bs, h1, h2⟩, _, h3⟩ := hr j s hj
  exact ⟨⟨j, hj5 _ _ hj, h3 q hq⟩, own_blk2 (h1.below hba (Nat.le_refl _)) q hq⟩
theorem wf_picks {B : Nat} {w : World} {ao : Option Addr} {cap : Nat} {ns : List Int} (h : SlA B 1 (RI .i64) w ao cap ns) : ∀ x ∈ ns, (Lit.int .i64 x).wf = true := fun x hx => by
  obtain ⟨i, hi, rfl⟩ := List.mem_iff_getElem.1 hx
  obtain ⟨b, off, rfl, _, _⟩ := h.addr (by omega)
  obtain ⟨cs, _, _, h7⟩ := h.get i hi
  exact h7.2
theorem infoI : (Try.prog.info? 3).map (fun i => (i.zero, i.size, i.bytes)) = some (some (.int .i64 0), 1, 8) := by kernel_rfl
theorem partsI : ∃ i, Try.prog.info? 3 = some i ∧ i.zero = some (.int .i64 0) ∧ i.size = 1 ∧ i.bytes = 8 := infoParts infoI

set_option maxRecDepth 100000 in
set_option maxHeartbeats 8000000 in
theorem keeps_any (ao : Option Addr) (cap : Nat) (data : List UInt8) (pa : Option Addr) (pc : Nat) (picks : List Int) (w : World) (hd : SlA w.heap.size 1 EU w ao cap data) (hp : SlA w.heap.size 1 (RI .i64) w pa pc picks) (hps : picks.length * 8 ≤ 140737488351232) :
    Calls Try.prog 5 #[.slice ao data.length cap, .slice pa picks.length pc] w fun e w' => e = .returned (.bool true) ∧ Below w.heap.size w w' := by
  have hsz1 : sA.size ≤ maxLen := by decide
  have hdlen := hd.len
  obtain ⟨n, hn⟩ : ∃ n, n = data.length := ⟨_, rfl⟩
  obtain ⟨pl, hpl⟩ : ∃ pl, pl = picks.length := ⟨_, rfl⟩
  rw [← hn] at hdlen ⊢
  rw [← hpl] at hps ⊢
  replace hn := Lib.hid hn
  replace hpl := Lib.hid hpl
  replace hd := Lib.hid hd
  replace hp := Lib.hid hp
  go_enter Try.func5, Try.ntmps5
  go_wp2_with fail
  refine (known_any w).mono ?_
  rintro e w1 ⟨rfl, hb1⟩
  dsimp only
  go_wp2_with fail
  refine (new_any 1048576 w1 (by omega) (by omega)).mono ?_
  rintro e w2 ⟨b, x0, rfl, hD0, hb2, hx1, hx2, hx3⟩
  obtain ⟨B0, hB0⟩ : ∃ B0, B0 = w1.heap.size := ⟨_, rfl⟩
  rw [← hB0] at hD0 hb2
  have hB0w : w.heap.size ≤ B0 := by rw [hB0]; exact hb1.size
  have hbw2 : Below w.heap.size w w2 := hb1.trans (hb2.mono hB0w)
  have hB2 : B0 ≤ w2.heap.size := by rw [hB0]; exact hb2.size
  have hnoF : ∀ g, ¬ BlkF x0 g := by
    rintro g (⟨p, hp, _⟩ | ⟨p, hp, _⟩ | ⟨c, hc, _⟩)
    · rw [hx1] at hp; cases hp
    · rw [hx2] at hp; cases hp
    · rw [hx3] at hc; cases hc
  replace hB0 := Lib.hid hB0
  replace hnoF := Lib.hid hnoF
  clear hb1 hb2 hx1 hx2 hx3
  dsimp only
  by_cases hbig : 524288 < n
  · have d1 : decide ((524288 : Int) < (n : Int)) = true := by simp; omega
    go_wp2_with fail
    go_ret
    exact ⟨rfl, hbw2⟩
  have d1 : decide ((524288 : Int) < (n : Int)) = false := by simp; omega
  have hn19 : n ≤ 524288 := by omega
  have hrm := room_any ao cap data w2 (hd.out.imp hbw2 hbw2.size (fun cs x _ h => h)) (by rw [← hn.out]; omega)
  rw [← hn.out] at hrm
  go_wp2_with fail
  refine hrm.mono ?_
  rintro e w3 ⟨g, ci, rfl, hin3, hb3⟩
  have hbw3 : Below w.heap.size w w3 := hbw2.trans (hb3.mono hbw2.size)
  have hD3 := hD0.below hb3
  have hB3 : B0 ≤ w3.heap.size := Nat.le_trans hB2 hb3.size
  clear hD0 hb3 hrm d1 hbig
  obtain ⟨i0, hi, hz0, hz1, hz2⟩ := partsI
  dsimp only
  go_wp2_with (at_builtin; refine Shut.out ?ka)
  unfold Shut
  have hba3 := belowAlloc w3 (.cells #[] 3)
  have hpe : SlA (w3.alloc (.cells #[] 3)).heap.size 1 (fun _ cs x => cs = encN x) (w3.alloc (.cells #[] 3)) pa pc picks := hp.out.imp (hbw3.trans (hba3.mono hbw3.size)) (Nat.le_trans hbw3.size hba3.size) (fun cs x _ h => h.1)
  refine wpList_app_sla (xs := []) (ys := picks) (enc := encN) (base := w3.heap.size) _ rfl _ _ 24 rfl Try.underlying24 hi hz0 hz1 hz2 rfl (by decide) rfl (ownEmpty w3 1 3) (by show Value.slice pa pl pc = _; rw [hpl.out]) hpe encN_len encN_one (by have := hpl.out; unfold maxLen; simp; omega) (by have := hpl.out; simp; omega) (by simp) (fun v4 w4 hown4 hgr4 => ?_)
  rw [List.nil_append] at hown4
  have hb34 : Below w3.heap.size w3 w4 := hba3.grown hgr4 (by simp) (fun g hg => by simp [Act.eval, Value.ownBlock] at hg; omega)
  have hbw4 := hbw3.trans (hb34.mono hbw3.size)
  have hD4 := hD3.below hb34
  have hin4 := hin3.below hb34 (Nat.le_refl _)
  have hB4 : B0 ≤ w4.heap.size := Nat.le_trans hB3 hb34.size
  obtain ⟨pa4, pc4, rfl, _, _, _⟩ := hown4.slice
  rw [← hpl.out]
  have hg2 : w2.heap.size ≤ g ∧ g < w3.heap.size := hin3.lt g rfl
  clear hpe hba3 hgr4 hD3 hin3
  have ok0 : OkM 0 K0 := OkM.empty 1048576 (by omega) (by omega)
  have ka1 := ka (d := data) (by rw [← hn.out]; exact hn19)
  have okA : OkM 1 (KA data) := by have := ok0.write sA 0 data; rwa [ka1] at this
  have okB : OkM 2 (KB data) := by have := okA.sync sA; rwa [kb] at this
  have okC : OkM 3 (KC data) := by have := okB.write sA 0 [122]; rwa [kc] at this
  obtain ⟨ai, ki, ei, hsi⟩ := own_slaU (own_front hin4 (by simp [mark3]; have := hn.out; omega))
  simp only [Value.slice.injEq, true_and] at ei
  obtain ⟨rfl, rfl⟩ := ei
  have hwr := write_st 0 sA 0 _ _ data w4 hsz1 hD4 ok0 (by omega) hB4 hsi (by rw [← hn.out]; omega) ka1
  rw [← hn.out] at hwr
  replace ok0 := Lib.hid ok0
  replace okA := Lib.hid okA
  replace okB := Lib.hid okB
  replace okC := Lib.hid okC
  clear hsi ka1
  try simp only [Act.put, List.setIfInBounds_toArray, List.set_cons_zero, List.set_cons_succ]
  go_wp2_with fail
  refine hwr.mono ?_
  rintro e w5 ⟨rfl, x5, s5⟩
  have hin5 := own_keep hin4 hD4 s5.c
  have hown5 := own_keepN hown4 hD4 s5.c
  have hbw5 := hbw4.trans (s5.bel.mono hB0w)
  have hB5 : B0 ≤ w5.heap.size := Nat.le_trans hB4 s5.c.size
  have hF5 : ∀ q, BlkF x5 q → w4.heap.size ≤ q := fun q hq => (s5.new.1 q hq).elim (fun h => absurd h (hnoF.out q)) (fun h => h)
  have hD5 := s5.d
  have hsz45 := s5.c.size
  have hkp := kept_any g ci ao cap _ data w5 _ (by rw [← hn.out]; exact hin5) (hd.out.imp hbw5 hbw5.size (fun cs x _ h => h)) (by rw [← hn.out]; omega)
  rw [← hn.out] at hkp
  replace hF5 := Lib.hid hF5
  clear hwr hin4 hown4 hD4 s5
  dsimp only
  go_wp2_with fail
  refine hkp.mono ?_
  rintro e w6 ⟨rfl, rfl⟩
  clear hkp
  dsimp only
  go_wp2_with fail
  have hin6 := own_front hin5 (by simp [mark3]; have := hn.out; omega)
  rw [← hn.out] at hin6
  have hgB := own_blk hin6
  replace hgB := Lib.hid hgB
  clear hin5
  go_loopw [9] (fun x9 wr => ∃ (i : Nat) (l : List UInt8), i ≤ n ∧ x9 = .int .i64 i ∧ l.length = n ∧ OwnL encU wr w2.heap.size 5 1 (.slice (some ⟨g, 0, none⟩) n ci) l ∧ Chg (fun k => k = g) w6 wr) (fun x9 _ => n - (intOf x9).toNat)
  case atStart => exact ⟨0, data, Nat.zero_le _, rfl, hn.out.symm, hin6, Chg.refl _ _⟩
  case round =>
    clear hin6
    obtain ⟨i, l, hin, rfl, hll, hO, hC⟩ := hrel
    by_cases hlt : i < n
    · have hil : i < l.length := by rw [hll]; exact hlt
      obtain ⟨c1, c2⟩ := ownCell hO encU_len hil (j := 0) (by omega)
      obtain ⟨c, hc⟩ : ∃ c : Nat, c = (l[i]).toNat := ⟨_, rfl⟩
      have hc8 : c ≤ 255 := by rw [hc]; have := (l[i]).toNat_lt; omega
      have cx : wr.cell? ⟨g, i, none⟩ = some (.int .u8 c) := by rw [hc]; simpa [encU] using c1
      have cf := c2 i
      have hset := fun (v : Nat) (hv : v ≤ 255) => ownSet hO encU_len hil (j := 0) (by omega) (x' := UInt8.ofNat v) (c := .int .u8 v) (by
        show encU (UInt8.ofNat v) = _
        unfold encU
        rw [UInt8.toNat_ofNat', Nat.mod_eq_of_lt (by omega)]
        rfl)
      replace hset := Lib.hid hset
      replace hc := Lib.hid hc
      have d1 : decide ((i : Int) < (n : Int)) = true := by simp; omega
      clear c1 c2
      go_wp2_with fail
      have hv := hset.out ((c + 1) % 256) (by omega)
      rw [Nat.mul_one, Nat.add_zero, show (((c + 1) % 256 : Nat) : Int) = ((c : Int) + 1) % 256 by omega] at hv
      exact ⟨⟨i + 1, _, by omega, by go_num, by rw [List.length_set]; exact hll, hv, hC.setCell _ _ (fun _ => rfl)⟩, by simp [intOf]; omega⟩
    · obtain rfl : i = n := by omega
      obtain ⟨wi, rfl⟩ : ∃ wi, wi = wr := ⟨wr, rfl⟩
      have hbwr : Below w.heap.size w wi := hbw5.trans (hC.below (B := w.heap.size) hbw5.size (fun j hj e => by have := hbw2.size; omega))
      have hDr := hD5.keepF hC (fun k hk hds => by subst hk; exact hD5.noU8 k hds _ hgB.out.choose_spec) (fun q hq e => by have := hF5.out q hq; have := hb34.size; omega)
      have hszr : w6.heap.size ≤ wi.heap.size := hC.size
      have hBr : B0 ≤ wi.heap.size := Nat.le_trans hB5 hszr
      have hpr := hown5.chg hC (fun q e s => by have := (hown5.lt q e).1; omega)
      have hra := read_any sA wi hsz1 hDr okA.out
      rw [(bA data).1, (bA data).2] at hra
      have d1 : decide ((i : Int) < (i : Int)) = false := by simp
      clear hbw5 hC hD5 hown5 hgB hB5
      go_wp2_with fail
      refine hra.mono ?_
      rintro e wa ⟨va, rfl, ha, hba⟩
      obtain ⟨aa, ca, rfl, hsa⟩ := own_slaU ha
      have ra := ha.lt
      rw [← hn.out] at ha ra ⊢
      have hDa := hDr.below hba
      have hbwa := hbwr.trans (hba.mono hbwr.size)
      have hBa : B0 ≤ wa.heap.size := Nat.le_trans hBr hba.size
      have hOa := hO.below hba (Nat.le_refl _)
      have hpa := hpr.below hba (Nat.le_refl _)
      have hsza := hba.size
      have hrb := read_any sA wa hsz1 hDa okA.out
      rw [(bA data).1, (bA data).2] at hrb
      replace ra := Lib.hid ra
      clear hra hDr hbwr hO hpr hba hBr d1 hsa
      dsimp only
      go_wp2_with fail
      refine hrb.mono ?_
      rintro e wb ⟨vb, rfl, hb, hbb⟩
      obtain ⟨ab, cb, rfl, hsb⟩ := own_slaU hb
      have rb := hb.lt
      rw [← hn.out] at hb rb ⊢
      have hDb := hDa.below hbb
      have hbwb := hbwa.trans (hbb.mono hbwa.size)
      have hBb : B0 ≤ wb.heap.size := Nat.le_trans hBa hbb.size
      have hOb := hOa.below hbb (Nat.le_refl _)
      have hpb := hpa.below hbb (Nat.le_refl _)
      have hab := ha.below hbb (Nat.le_refl _)
      have hszb := hbb.size
      obtain ⟨a1, k1, e1, hsa⟩ := own_slaU hab
      rw [← hn.out] at e1
      simp only [Value.slice.injEq, true_and] at e1
      obtain ⟨rfl, rfl⟩ := e1
      have hsm := same_any wb hsa (hd.out.imp hbwb hbwb.size (fun cs x _ h => h))
      rw [decide_eq_true rfl, ← hn.out] at hsm
      have hsy := sync_st 0 sA wb hsz1 hDb okA.out (by omega) hBb (kb data)
      replace rb := Lib.hid rb
      clear hrb hDa hbwa hOa hpa ha hbb hBa hsa hsb
      dsimp only
      go_wp2_with fail
      refine hsm.mono ?_
      rintro e wb2 ⟨rfl, hwb2⟩
      obtain rfl : wb = wb2 := hwb2.symm
      dsimp only
      go_wp2_with fail
      refine hsy.mono ?_
      rintro e ws ⟨rfl, xs, ss⟩
      clear hsm hsy
      dsimp only
      go_wp2_with fail
      have hDs := ss.d
      have hOs := own_keep hOb hDb ss.c
      have hps2 := own_keepN hpb hDb ss.c
      have has := own_keep hab hDb ss.c
      have hbs := own_keep hb hDb ss.c
      have hbws := hbwb.trans (ss.bel.mono hB0w)
      have hszs : wb.heap.size ≤ ws.heap.size := ss.c.size
      have hBs : B0 ≤ ws.heap.size := Nat.le_trans hBb hszs
      have hFs : ∀ q, BlkL xs.safe q → wb.heap.size ≤ q ∧ q < ws.heap.size := fun q hq => ⟨(ss.new.2 q hq).elim (fun h => by rw [safe_nil hDb rfl] at h; obtain ⟨p, hp, _⟩ := h; cases hp) (fun h => h), hDs.blk_lt q (.inr (.inl hq))⟩
      have hrc := durable_any sA ws hsz1 hDs okB.out
      rw [(bB data).1, (bB data).2] at hrc
      replace hFs := Lib.hid hFs
      clear hOb hpb hab hb hbwb hBb hDb ss hF5
      refine hrc.mono ?_
      rintro e wc ⟨vc, rfl, hc, hbc⟩
      obtain ⟨ac, cc, rfl, hsc⟩ := own_slaU hc
      have rc := hc.lt
      rw [← hn.out] at hc rc ⊢
      have hDc := hDs.below hbc
      have hbwc := hbws.trans (hbc.mono hbws.size)
      have hBc : B0 ≤ wc.heap.size := Nat.le_trans hBs hbc.size
      have hOc := hOs.below hbc (Nat.le_refl _)
      have hpc := hps2.below hbc (Nat.le_refl _)
      have hac := has.below hbc (Nat.le_refl _)
      have hbc2 := hbs.below hbc (Nat.le_refl _)
      have hszc := hbc.size
      have hre := durable_any sA wc hsz1 hDc okB.out
      rw [(bB data).1, (bB data).2] at hre
      replace rc := Lib.hid rc
      clear hrc hDs hbws hOs hps2 has hbs hbc hBs hsc
      dsimp only
      go_wp2_with fail
      refine hre.mono ?_
      rintro e we ⟨ve, rfl, he, hbe⟩
      obtain ⟨ae, ce, rfl, hse⟩ := own_slaU he
      have re := he.lt
      rw [← hn.out] at he re ⊢
      have hDe := hDc.below hbe
      have hbwe := hbwc.trans (hbe.mono hbwc.size)
      have hBe : B0 ≤ we.heap.size := Nat.le_trans hBc hbe.size
      have hOe := hOc.below hbe (Nat.le_refl _)
      have hpe := hpc.below hbe (Nat.le_refl _)
      have hae := hac.below hbe (Nat.le_refl _)
      have hbe2 := hbc2.below hbe (Nat.le_refl _)
      have hce := hc.below hbe (Nat.le_refl _)
      have hsze := hbe.size
      replace re := Lib.hid re
      clear hre hDc hbwc hOc hpc hac hbc2 hc hbe hBc hse
      have hbz := belowAlloc we (.cells #[.int .u8 122] 5 (1, 2))
      have hs1 := sla_const we #[.int .u8 122] (1, 2) [122] rfl (by decide)
      have hwz := write_st 0 sA 0 _ _ [122] _ hsz1 (hDe.below hbz) okB.out (by omega) (Nat.le_trans hBe hbz.size) hs1 (by decide) (kc data)
      obtain ⟨wf, hwf⟩ : ∃ wf, wf = we.alloc (.cells #[.int .u8 122] 5 (1, 2)) := ⟨_, rfl⟩
      have hDf := hDe.below hbz
      have hOf := hOe.below hbz (Nat.le_refl _)
      have hpf := hpe.below hbz (Nat.le_refl _)
      have haf := hae.below hbz (Nat.le_refl _)
      have hbf := hbe2.below hbz (Nat.le_refl _)
      have hcf := hce.below hbz (Nat.le_refl _)
      have hef := he.below hbz (Nat.le_refl _)
      have hbwf := hbwe.trans (hbz.mono hbwe.size)
      have hBf := Nat.le_trans hBe hbz.size
      have hszf := hbz.size
      rw [← hwf] at hDf hOf hpf haf hbf hcf hef hbwf hBf hszf hwz
      replace hwz := Lib.hid hwz
      replace hwf := Lib.hid hwf
      clear hbz hs1 hDe hOe hpe hae hbe2 hce he hbwe hBe
      dsimp only
      go_wp2_with fail
      rw [← hwf.out]
      refine hwz.out.mono ?_
      rintro e wz ⟨rfl, xz, sz⟩
      have hDz := sz.d
      have hOz := own_keep hOf hDf sz.c
      have hpz := own_keepN hpf hDf sz.c
      have haz := own_keep haf hDf sz.c
      have hbz := own_keep hbf hDf sz.c
      have hcz := own_keep hcf hDf sz.c
      have hez := own_keep hef hDf sz.c
      have hbwz := hbwf.trans (sz.bel.mono hB0w)
      have hszz : wf.heap.size ≤ wz.heap.size := sz.c.size
      have hBz : B0 ≤ wz.heap.size := Nat.le_trans hBf hszz
      have hFz : ∀ q, BlkL xz.safe q → (wb.heap.size ≤ q ∧ q < ws.heap.size) ∨ wf.heap.size ≤ q := fun q hq => (sz.new.2 q hq).elim (fun h => .inl (hFs.out q h)) .inr
      replace hFz := Lib.hid hFz
      obtain ⟨pa5, pc5, ep, hpsl⟩ := hpz.sla (E := fun _ cs x => cs = encN x) encN_len (fun _ _ => rfl)
      rw [← hpl.out] at ep
      simp only [Value.slice.injEq, true_and] at ep
      obtain ⟨rfl, rfl⟩ := ep
      have hwfp := wf_picks hp.out
      have hcr := crash_st picks pa4 pc4 wz hDz okC.out (by omega) hBz (hpsl.imp (Below.refl _ _) (Nat.le_refl _) (fun cs x hx h => ⟨h, hwfp x hx⟩))
      rw [← hpl.out] at hcr
      clear hwz hwf hDf hOf hpf haf hbf hcf hef hbwf hBf sz hFs hpsl hwfp
      dsimp only
      go_wp2_with fail
      refine hcr.mono ?_
      rintro e wk ⟨⟨vk, rfl⟩, xk, sk, hFk0⟩
      have hDk := sk.d
      have hOk := own_keep hOz hDz sk.c
      have hpk := own_keepN hpz hDz sk.c
      have hak := own_keep haz hDz sk.c
      have hbk := own_keep hbz hDz sk.c
      have hck := own_keep hcz hDz sk.c
      have hek := own_keep hez hDz sk.c
      have hbwk := hbwz.trans (sk.bel.mono hB0w)
      have hszk : wz.heap.size ≤ wk.heap.size := sk.c.size
      have hFk : ∀ q, BlkF xk q → (wb.heap.size ≤ q ∧ q < ws.heap.size) ∨ wf.heap.size ≤ q := fun q hq => (hFk0 q hq).elim (fun h => hFz.out q h) (fun h => .inr (by omega))
      replace hFk := Lib.hid hFk
      clear hcr hFk0 hFz sk hDz hOz hpz haz hbz hcz hez hbwz hBz
      dsimp only
      go_wp2_with fail
      have hpsk : ∃ ak ck, Value.slice pa4 pl pc4 = .slice ak pl ck ∧ SlA wk.heap.size 1 (fun _ cs x => cs = encN x) wk ak ck picks := by
        obtain ⟨ak, ck, e1, e2⟩ := hpk.sla (E := fun _ cs x => cs = encN x) encN_len (fun _ _ => rfl)
        rw [← hpl.out] at e1
        exact ⟨ak, ck, e1, e2⟩
      obtain ⟨ak, ck, e1, hpsk⟩ := hpsk
      simp only [Value.slice.injEq, true_and] at e1
      obtain ⟨rfl, rfl⟩ := e1
      have hcel : ∀ j, j < pl → ∃ b1 o1 b2 o2 v, pa4 = some ⟨b1, o1, none⟩ ∧ pa = some ⟨b2, o2, none⟩ ∧ wk.cell? ⟨b1, o1 + j, none⟩ = some (.int .i64 v) ∧ wk.cell? ⟨b2, o2 + j, none⟩ = some (.int .i64 v) := fun j hj => by
        have hjp : j < picks.length := by rw [← hpl.out]; exact hj
        obtain ⟨b1, o1, rfl, _, _⟩ := hpsk.addr (by omega)
        have hpw := hp.out
        obtain ⟨b2, o2, rfl, hb2, _⟩ := hpw.addr (by omega)
        obtain ⟨cs1, _, h6, h7⟩ := hpsk.get j hjp
        obtain ⟨cs2, _, h8, h9⟩ := hpw.get j hjp
        have h10 := h6 0 (by omega)
        have h11 := h8 0 (by omega)
        rw [h7] at h10
        rw [h9.1] at h11
        refine ⟨b1, o1, b2, o2, picks[j], rfl, rfl, by simpa [encN] using h10, ?_⟩
        rw [hbwk.cell (p := ⟨b2, o2 + j, none⟩) hb2]
        simpa using h11
      replace hcel := Lib.hid hcel
      clear hpsk hpk
      go_loopw [18] (fun x18 wr => ∃ j : Nat, j ≤ pl ∧ x18 = .int .i64 j ∧ Below wk.heap.size wk wr) (fun x18 _ => pl - (intOf x18).toNat)
      case atStart => exact ⟨0, Nat.zero_le _, rfl, Below.refl _ _⟩
      case round =>
        obtain ⟨j, hjp, rfl, hbq⟩ := hrel
        by_cases hlt : j < pl
        · obtain ⟨b1, o1, b2, o2, v, rfl, rfl, q1, q2⟩ := hcel.out j hlt
          have cx1 := (hbq.cell (p := ⟨b1, o1 + j, none⟩) (World.lt_of_cell q1)).trans q1
          have cx2 := (hbq.cell (p := ⟨b2, o2 + j, none⟩) (World.lt_of_cell q2)).trans q2
          have d1 : decide ((j : Int) < (pl : Int)) = true := by simp; omega
          clear q1 q2
          go_upto_region 25 with fail
          refine wp_region_tree (fun wx => wx.cell? ⟨b1, o1 + j, none⟩ = some (.int .i64 v) ∧ wx.cell? ⟨b2, o2 + j, none⟩ = some (.int .i64 v)) 8 9 (by kernel_rfl) rfl (by kernel_rfl) (fun d _ _ _ _ h => by cases d <;> exact h) (⟨cx1, cx2⟩) (fun opz T hOps hT hTok hHeld => ?_)
          (refine wpTree_q 0 hTok hOps (by kernel_rfl) rfl rfl ⟨?_, ?_, ?_⟩; rotate_left; (focus (intro wx hSx; (try dsimp only at hSx); go_simp; (try with_reducible rfl))); (simp only [Act.put, List.setIfInBounds_toArray, List.set_cons_zero, List.set_cons_succ]))
          (refine wpTree_q 1 hTok hOps (by kernel_rfl) rfl rfl ⟨?_, ?_, ?_⟩; rotate_left; (focus (intro wx hSx; (try dsimp only at hSx); go_simp; (try with_reducible rfl))); (simp only [Act.put, List.setIfInBounds_toArray, List.set_cons_zero, List.set_cons_succ]))
          (refine wpTree_q 2 hTok hOps (by kernel_rfl) rfl rfl ⟨?_, ?_, ?_⟩; rotate_left; (focus (intro wx hSx; (try dsimp only at hSx); go_simp; (try with_reducible rfl))); (simp only [Act.put, List.setIfInBounds_toArray, List.set_cons_zero, List.set_cons_succ]))
          (refine wpTree_q 3 hTok hOps (by kernel_rfl) rfl rfl ⟨?_, ?_, ?_⟩; rotate_left; (focus (intro wx hSx; (try dsimp only at hSx); go_simp; (try with_reducible rfl))); (simp only [Act.put, List.setIfInBounds_toArray, List.set_cons_zero, List.set_cons_succ]))
          (refine wpTree_q 4 hTok hOps (by kernel_rfl) rfl rfl ⟨?_, ?_, ?_⟩; rotate_left; (focus (intro wx hSx; (try dsimp only at hSx); go_simp; (try with_reducible rfl))); (simp only [Act.put, List.setIfInBounds_toArray, List.set_cons_zero, List.set_cons_succ]))
          (refine wpTree_q 5 hTok hOps (by kernel_rfl) rfl rfl ⟨?_, ?_, ?_⟩; rotate_left; (focus (intro wx hSx; (try dsimp only at hSx); go_simp; (try with_reducible rfl))); (simp only [Act.put, List.setIfInBounds_toArray, List.set_cons_zero, List.set_cons_succ]))
          (refine wpTree_q 6 hTok hOps (by kernel_rfl) rfl rfl ⟨?_, ?_, ?_⟩; rotate_left; (focus (intro wx hSx; (try dsimp only at hSx); go_simp; (try with_reducible rfl))); (simp only [Act.put, List.setIfInBounds_toArray, List.set_cons_zero, List.set_cons_succ]))
          (refine wpTree_q 7 hTok hOps (by kernel_rfl) rfl rfl ⟨?_, ?_, ?_⟩; rotate_left; (focus (intro wx hSx; (try dsimp only at hSx); go_simp; (try with_reducible rfl))); (simp only [Act.put, List.setIfInBounds_toArray, List.set_cons_zero, List.set_cons_succ]))
          refine wpTree_nil hOps (by kernel_rfl) ?_
          refine hT.out _ _ ?_
          simp only [List.drop_succ_cons, List.drop_zero]
          clear hOps hT hTok hHeld
          have hvv : (v != v) = false := by simp
          have hbq2 : Below wk.heap.size wk wr.drew := hbq.drew
          clear cx1 cx2 hbq
          go_wp2_with fail
          go_roundw
          case rel => exact ⟨j + 1, by omega, by go_num, hbq2⟩
          case measure => simp [intOf]; omega
        · obtain rfl : j = pl := by omega
          have d1 : decide ((j : Int) < (j : Int)) = false := by simp
          have hbwq := hbwk.trans (hbq.mono hbwk.size)
          have hDq := hDk.below hbq
          have hOq := hOk.below hbq (Nat.le_refl _)
          have haq := hak.below hbq (Nat.le_refl _)
          have hbq2 := hbk.below hbq (Nat.le_refl _)
          have hcq := hck.below hbq (Nat.le_refl _)
          have heq := hek.below hbq (Nat.le_refl _)
          have hszq := hbq.size
          obtain ⟨a1, k1, e1, hsc⟩ := own_slaU hcq
          rw [← hn.out] at e1
          simp only [Value.slice.injEq, true_and] at e1
          obtain ⟨rfl, rfl⟩ := e1
          have hsm := same_any wr hsc (hd.out.imp hbwq hbwq.size (fun cs x _ h => h))
          rw [decide_eq_true rfl, ← hn.out] at hsm
          clear hsc hbwk hDk hOk hak hbk hck hek hbq
          go_wp2_with fail
          refine hsm.mono ?_
          rintro e wq2 ⟨rfl, hwq2⟩
          obtain rfl : wr = wq2 := hwq2.symm
          clear hsm
          dsimp only
          go_wp2_with fail
          have hap := apart5 (w := wr) (lo := w.heap.size) ⟨aa, i, ca⟩ ⟨ab, i, cb⟩ ⟨ac, i, cc⟩ ⟨ae, i, ce⟩ ⟨some ⟨g, 0, none⟩, i, ci⟩
            (fun j => if j = 0 then wi.heap.size else if j = 1 then wa.heap.size else if j = 2 then ws.heap.size else if j = 3 then wc.heap.size else w2.heap.size)
            (fun j => if j = 0 then wa.heap.size else if j = 1 then wb.heap.size else if j = 2 then wc.heap.size else if j = 3 then we.heap.size else w3.heap.size)
            (fun j s hs => by
              have hi6 : i ≤ 600000 := by omega
              match j, hs with
              | 0, hs => cases hs; exact ⟨⟨_, data, haq, hn.out.symm⟩, hi6, fun q hq => ra.out q hq⟩
              | 1, hs => cases hs; exact ⟨⟨_, data, hbq2, hn.out.symm⟩, hi6, fun q hq => rb.out q hq⟩
              | 2, hs => cases hs; exact ⟨⟨_, data, hcq, hn.out.symm⟩, hi6, fun q hq => rc.out q hq⟩
              | 3, hs => cases hs; exact ⟨⟨_, data, heq, hn.out.symm⟩, hi6, fun q hq => re.out q hq⟩
              | 4, hs => cases hs; exact ⟨⟨_, l, hOq, hll⟩, hi6, fun q hq => by
                  obtain rfl : g = q := by simpa [sv, Value.ownBlock] using hq
                  exact hg2⟩
              | _ + 5, hs => cases hs)
            (fun j1 j2 h1 h2 hne => by
              have q1 := hb34.size
              have e1 : j1 = 0 ∨ j1 = 1 ∨ j1 = 2 ∨ j1 = 3 ∨ j1 = 4 := by omega
              have e2 : j2 = 0 ∨ j2 = 1 ∨ j2 = 2 ∨ j2 = 3 ∨ j2 = 4 := by omega
              rcases e1 with rfl | rfl | rfl | rfl | rfl <;> rcases e2 with rfl | rfl | rfl | rfl | rfl <;> first | (exact absurd rfl hne) | (simp <;> omega))
            (fun j h1 => by
              have q1 := hb34.size
              have q2 := hbw2.size
              have e1 : j = 0 ∨ j = 1 ∨ j = 2 ∨ j = 3 ∨ j = 4 := by omega
              rcases e1 with rfl | rfl | rfl | rfl | rfl <;> simp <;> omega)
            hbwq.size
          obtain ⟨wl, hwl⟩ : ∃ wl, wl = wr.alloc (.cells #[.slice aa i ca, .slice ab i cb, .slice ac i cc, .slice ae i ce, .slice (some ⟨g, 0, none⟩) i ci] 23) := ⟨_, rfl⟩
          have hbl : Below wr.heap.size wr wl := by rw [hwl]; exact belowAlloc _ _
          change Calls _ _ _ (wr.alloc (.cells #[.slice aa i ca, .slice ab i cb, .slice ac i cc, .slice ae i ce, .slice (some ⟨g, 0, none⟩) i ci] 23)) (fun e w' => e = .returned (.bool true) ∧ ∃ S : Nat → Prop, (∀ q, S q → (∃ j, j < 5 ∧ _) ∧ ∃ cells, Blk (wr.alloc (.cells #[.slice aa i ca, .slice ab i cb, .slice ac i cc, .slice ae i ce, .slice (some ⟨g, 0, none⟩) i ci] 23)) q cells 5) ∧ Chg S (wr.alloc (.cells #[.slice aa i ca, .slice ab i cb, .slice ac i cc, .slice ae i ce, .slice (some ⟨g, 0, none⟩) i ci] 23)) w') at hap
          rw [← hwl] at hap ⊢
          refine hap.mono ?_
          rintro e wm ⟨rfl, S, hS, hCm⟩
          have hDl := hDq.below hbl
          have hDm := hDl.keepF hCm (fun k hk hds => hDl.noU8 k hds _ (hS k hk).2.choose_spec) (fun q hq hk => by
            obtain ⟨⟨jj, hj5, hjr⟩, _⟩ := hS q hk
            have q1 := hb34.size
            have q2 := hFk.out q hq
            have e1 : jj = 0 ∨ jj = 1 ∨ jj = 2 ∨ jj = 3 ∨ jj = 4 := by omega
            rcases e1 with rfl | rfl | rfl | rfl | rfl <;> simp at hjr <;> omega)
          have hbwl := hbwq.trans (hbl.mono hbwq.size)
          have hbwm : Below w.heap.size w wm := hbwl.trans (hCm.below (B := w.heap.size) hbwl.size (fun q hq hk => by
            obtain ⟨⟨jj, hj5, hjr⟩, _⟩ := hS q hk
            have q1 := hb34.size
            have q2 := hbw2.size
            have e1 : jj = 0 ∨ jj = 1 ∨ jj = 2 ∨ jj = 3 ∨ jj = 4 := by omega
            rcases e1 with rfl | rfl | rfl | rfl | rfl <;> simp at hjr <;> omega))
          clear hap hwl hbl hS hCm hDl hbwl hDq hOq haq hbq2 hcq heq ra rb rc re hFk hbwq
          dsimp only
          go_wp2_with fail
          obtain ⟨fd, hfd, hfl, hfdrop, hfl2⟩ := kd data picks
          have hrf := read_any sA wm hsz1 hDm (okC.out.crash picks)
          rw [hfd] at hrf
          obtain ⟨okf, hokf⟩ : ∃ okf, okf = (getL (crashM (KC data) picks).now sA).isSome := ⟨_, rfl⟩
          rw [← hokf] at hrf
          clear hokf hfd hDm
          refine hrf.mono ?_
          rintro e wn ⟨vf, rfl, hf, hbf⟩
          obtain ⟨af, cf, rfl, hsf⟩ := own_slaU hf
          have hbwn := hbwm.trans (hbf.mono hbwm.size)
          obtain ⟨fl, hfl3⟩ : ∃ fl, fl = fd.length := ⟨_, rfl⟩
          rw [← hfl3, ← hn.out] at hfl hfl2
          rw [← hn.out] at hfdrop
          rw [← hfl3]
          have hdn : SlA wn.heap.size 1 EU wn ao cap data := hd.out.imp hbwn hbwn.size (fun cs x _ h => h)
          have d1 : decide ((fl : Int) < (i : Int)) = false := by simp; omega
          have d1' : decide (fl < i) = false := by simp; omega
          replace hfl3 := Lib.hid hfl3
          replace hfdrop := Lib.hid hfdrop
          clear hrf hf hbf hbwm
          dsimp only
          go_upto_region 30 with fail
          by_cases hi1 : 1 < i
          · obtain ⟨bf, of, rfl, _, _⟩ := hsf.addr (by rw [← hfl3.out]; omega)
            obtain ⟨bo, oo, rfl, _, _⟩ := hdn.addr (by rw [← hn.out]; omega)
            have hcf : fl ≤ cf := by rw [hfl3.out]; exact hsf.1
            have hcd : i ≤ cap := by rw [hn.out]; exact hdn.1
            have d2 : decide ((1 : Int) < (i : Int)) = true := by simp; omega
            have q1 : (1 : Int) ≤ (fl : Int) := by omega
            have q2 : ¬ (cf = 1) := by omega
            have q3 : (1 : Int) ≤ (i : Int) := by omega
            have q4 : ¬ (cap = 1) := by omega
            have hdf := slaDrop hsf 1 (by rw [← hfl3.out]; omega) (some ⟨bf, of + 1 * 1, none⟩) (cf - 1) (.inl ⟨rfl, rfl⟩)
            have hdd := slaDrop hdn 1 (by rw [← hn.out]; omega) (some ⟨bo, oo + 1 * 1, none⟩) (cap - 1) (.inl ⟨rfl, rfl⟩)
            have hsame := fun (wx : World) (hx : Below wn.heap.size wn wx) => same_any wx (hdf.imp hx (Nat.le_refl _) (fun cs x _ h => h)) (hdd.imp hx (Nat.le_refl _) (fun cs x _ h => h))
            rw [hfdrop.out hi1, decide_eq_true rfl, List.length_drop, ← hn.out] at hsame
            have hfi : fl - 1 = i - 1 := by
              have h1 := congrArg List.length (hfdrop.out hi1)
              rw [List.length_drop, List.length_drop, ← hfl3.out, ← hn.out] at h1
              exact h1
            replace hsame := Lib.hid hsame
            replace hfi := Lib.hid hfi
            clear hdf hdd
            refine wp_region_tree (fun wx => wx = wx) 14 18 (by kernel_rfl) rfl (by kernel_rfl) (fun d _ _ _ _ h => by cases d <;> exact h) (rfl) (fun opz T hOps hT hTok hHeld => ?_)
            (refine wpTree_q 0 hTok hOps (by kernel_rfl) rfl rfl ⟨?_, ?_, ?_⟩; rotate_left; (focus (intro wx hSx; (try dsimp only at hSx); go_simp; (try with_reducible rfl))); (simp only [Act.put, List.setIfInBounds_toArray, List.set_cons_zero, List.set_cons_succ]))
            (refine wpTree_q 1 hTok hOps (by kernel_rfl) rfl rfl ⟨?_, ?_, ?_⟩; rotate_left; (focus (intro wx hSx; (try dsimp only at hSx); go_simp; (try with_reducible rfl))); (simp only [Act.put, List.setIfInBounds_toArray, List.set_cons_zero, List.set_cons_succ]))
            (refine wpTree_q 2 hTok hOps (by kernel_rfl) rfl rfl ⟨?_, ?_, ?_⟩; rotate_left; (focus (intro wx hSx; (try dsimp only at hSx); go_simp; (try with_reducible rfl))); (simp only [Act.put, List.setIfInBounds_toArray, List.set_cons_zero, List.set_cons_succ]))
            (refine wpTree_q 3 hTok hOps (by kernel_rfl) rfl rfl ⟨?_, ?_, ?_⟩; rotate_left; (focus (intro wx hSx; (try dsimp only at hSx); go_simp; (try with_reducible rfl))); (simp only [Act.put, List.setIfInBounds_toArray, List.set_cons_zero, List.set_cons_succ]))
            (refine wpTree_q 4 hTok hOps (by kernel_rfl) rfl rfl ⟨?_, ?_, ?_⟩; rotate_left; (focus (intro wx hSx; (try dsimp only at hSx); go_simp; (try with_reducible rfl))); (simp only [Act.put, List.setIfInBounds_toArray, List.set_cons_zero, List.set_cons_succ]))
            (refine wpTree_q 5 hTok hOps (by kernel_rfl) rfl rfl ⟨?_, ?_, ?_⟩; rotate_left; (focus (intro wx hSx; (try dsimp only at hSx); go_simp; (try with_reducible rfl))); (simp only [Act.put, List.setIfInBounds_toArray, List.set_cons_zero, List.set_cons_succ]))
            (refine wpTree_qg 6 hTok hOps (by kernel_rfl) rfl rfl ⟨?_, ?_, ?_⟩; rotate_left; (focus (intro wx hSx; (try dsimp only at hSx); go_simp; (try with_reducible rfl))); (simp only [Act.put, List.setIfInBounds_toArray, List.set_cons_zero, List.set_cons_succ]))
            (refine wpTree_qg 7 hTok hOps (by kernel_rfl) rfl rfl ⟨?_, ?_, ?_⟩; rotate_left; (focus (intro wx hSx; (try dsimp only at hSx); go_simp; (try with_reducible rfl))); (simp only [Act.put, List.setIfInBounds_toArray, List.set_cons_zero, List.set_cons_succ]))
            (refine wpTree_qg 8 hTok hOps (by kernel_rfl) rfl rfl ⟨?_, ?_, ?_⟩; rotate_left; (focus (intro wx hSx; (try dsimp only at hSx); go_simp; (try with_reducible rfl))); (simp only [Act.put, List.setIfInBounds_toArray, List.set_cons_zero, List.set_cons_succ]))
            (refine wpTree_qg 9 hTok hOps (by kernel_rfl) rfl rfl ⟨?_, ?_, ?_⟩; rotate_left; (focus (intro wx hSx; (try dsimp only at hSx); go_simp; (try with_reducible rfl))); (simp only [Act.put, List.setIfInBounds_toArray, List.set_cons_zero, List.set_cons_succ]))
            (refine wpTree_qg 10 hTok hOps (by kernel_rfl) rfl rfl ⟨?_, ?_, ?_⟩; rotate_left; (focus (intro wx hSx; (try dsimp only at hSx); go_simp; (try with_reducible rfl))); (simp only [Act.put, List.setIfInBounds_toArray, List.set_cons_zero, List.set_cons_succ]))
            (refine wpTree_qg 11 hTok hOps (by kernel_rfl) rfl rfl ⟨?_, ?_, ?_⟩; rotate_left; (focus (intro wx hSx; (try dsimp only at hSx); go_simp; (try with_reducible rfl))); (simp only [Act.put, List.setIfInBounds_toArray, List.set_cons_zero, List.set_cons_succ]))
            (refine wpTree_qg 12 hTok hOps (by kernel_rfl) rfl rfl ⟨?_, ?_, ?_⟩; rotate_left; (focus (intro wx hSx; (try dsimp only at hSx); go_simp; (try with_reducible rfl))); (simp only [Act.put, List.setIfInBounds_toArray, List.set_cons_zero, List.set_cons_succ]))
            (refine wpTree_qg 13 hTok hOps (by kernel_rfl) rfl rfl ⟨?_, ?_, ?_⟩; rotate_left; (focus (intro wx hSx; (try dsimp only at hSx); go_simp; (try with_reducible rfl))); (simp only [Act.put, List.setIfInBounds_toArray, List.set_cons_zero, List.set_cons_succ]))
            refine wpTree_nil hOps (by kernel_rfl) ?_
            refine hT.out _ _ ?_
            simp only [List.drop_succ_cons, List.drop_zero]
            clear hOps hT hTok hHeld
            have hbwd : Below w.heap.size w wn.drew := hbwn.drew
            have hsm2 := hsame.out wn.drew (Below.refl _ _).drew
            clear hsame hbwn hsf hdn
            go_wp2_with fail
            first | rw [hfi.out] | skip
            refine hsm2.mono ?_
            rintro e wo ⟨rfl, rfl⟩
            clear hsm2
            dsimp only
            go_wp2_with fail
            refine (nil_crash _ _).mono ?_
            rintro e y1 ⟨⟨vy1, rfl⟩, hy1⟩
            replace hy1 := hbwd.trans (hy1.mono hbwd.size)
            clear hbwd
            dsimp only
            go_wp2_with fail
            refine (nil_fail _ _).mono ?_
            rintro e yy ⟨⟨vy2, rfl⟩, hyy⟩
            obtain rfl : y1 = yy := hyy.symm
            dsimp only
            go_wp2_with fail
            refine (nil_read _ _).mono ?_
            rintro e yy ⟨rfl, hyy⟩
            obtain rfl : y1 = yy := hyy.symm
            dsimp only
            go_wp2_with fail
            refine (nil_write _ _ _).mono ?_
            rintro e yy ⟨rfl, hyy⟩
            obtain rfl : y1 = yy := hyy.symm
            dsimp only
            go_wp2_with fail
            refine (nil_sync _ _).mono ?_
            rintro e y2 ⟨rfl, hy2⟩
            replace hy2 := hy1.trans (hy2.mono hy1.size)
            clear hy1
            dsimp only
            go_wp2_with fail
            refine (nil_cut _ _ _).mono ?_
            rintro e yy ⟨rfl, hyy⟩
            obtain rfl : y2 = yy := hyy.symm
            dsimp only
            go_wp2_with fail
            refine (nil_remove _ _).mono ?_
            rintro e yy ⟨rfl, hyy⟩
            obtain rfl : y2 = yy := hyy.symm
            dsimp only
            go_wp2_with fail
            refine (nil_limit _ _).mono ?_
            rintro e yy ⟨rfl, hyy⟩
            obtain rfl : y2 = yy := hyy.symm
            dsimp only
            go_wp2_with fail
            refine (nil_copy _).mono ?_
            rintro e yy ⟨rfl, hyy⟩
            obtain rfl : y2 = yy := hyy.symm
            dsimp only
            go_wp2_with fail
            refine (nil_used _).mono ?_
            rintro e yy ⟨rfl, hyy⟩
            obtain rfl : y2 = yy := hyy.symm
            dsimp only
            go_wp2_with fail
            go_ret
            exact ⟨rfl, hy2⟩
          · have d2 : decide ((1 : Int) < (i : Int)) = false := by simp; omega
            refine wp_region_tree (fun wx => wx = wx) 14 18 (by kernel_rfl) rfl (by kernel_rfl) (fun d _ _ _ _ h => by cases d <;> exact h) (rfl) (fun opz T hOps hT hTok hHeld => ?_)
            (refine wpTree_q 0 hTok hOps (by kernel_rfl) rfl rfl ⟨?_, ?_, ?_⟩; rotate_left; (focus (intro wx hSx; (try dsimp only at hSx); go_simp; (try with_reducible rfl))); (simp only [Act.put, List.setIfInBounds_toArray, List.set_cons_zero, List.set_cons_succ]))
            (refine wpTree_q 1 hTok hOps (by kernel_rfl) rfl rfl ⟨?_, ?_, ?_⟩; rotate_left; (focus (intro wx hSx; (try dsimp only at hSx); go_simp; (try with_reducible rfl))); (simp only [Act.put, List.setIfInBounds_toArray, List.set_cons_zero, List.set_cons_succ]))
            (refine wpTree_q 2 hTok hOps (by kernel_rfl) rfl rfl ⟨?_, ?_, ?_⟩; rotate_left; (focus (intro wx hSx; (try dsimp only at hSx); go_simp; (try with_reducible rfl))); (simp only [Act.put, List.setIfInBounds_toArray, List.set_cons_zero, List.set_cons_succ]))
            (refine wpTree_q 3 hTok hOps (by kernel_rfl) rfl rfl ⟨?_, ?_, ?_⟩; rotate_left; (focus (intro wx hSx; (try dsimp only at hSx); go_simp; (try with_reducible rfl))); (simp only [Act.put, List.setIfInBounds_toArray, List.set_cons_zero, List.set_cons_succ]))
            (refine wpTree_q 4 hTok hOps (by kernel_rfl) rfl rfl ⟨?_, ?_, ?_⟩; rotate_left; (focus (intro wx hSx; (try dsimp only at hSx); go_simp; (try with_reducible rfl))); (simp only [Act.put, List.setIfInBounds_toArray, List.set_cons_zero, List.set_cons_succ]))
            (refine wpTree_q 5 hTok hOps (by kernel_rfl) rfl rfl ⟨?_, ?_, ?_⟩; rotate_left; (focus (intro wx hSx; (try dsimp only at hSx); go_simp; (try with_reducible rfl))); (simp only [Act.put, List.setIfInBounds_toArray, List.set_cons_zero, List.set_cons_succ]))
            (refine wpTree_qg 6 hTok hOps (by kernel_rfl) rfl rfl ⟨?_, ?_, ?_⟩; rotate_left; (focus (intro wx hSx; (try dsimp only at hSx); go_simp; (try with_reducible rfl))); (simp only [Act.put, List.setIfInBounds_toArray, List.set_cons_zero, List.set_cons_succ]))
            (refine wpTree_qg 7 hTok hOps (by kernel_rfl) rfl rfl ⟨?_, ?_, ?_⟩; rotate_left; (focus (intro wx hSx; (try dsimp only at hSx); go_simp; (try with_reducible rfl))); (simp only [Act.put, List.setIfInBounds_toArray, List.set_cons_zero, List.set_cons_succ]))
            (refine wpTree_qg 8 hTok hOps (by kernel_rfl) rfl rfl ⟨?_, ?_, ?_⟩; rotate_left; (focus (intro wx hSx; (try dsimp only at hSx); go_simp; (try with_reducible rfl))); (simp only [Act.put, List.setIfInBounds_toArray, List.set_cons_zero, List.set_cons_succ]))
            (refine wpTree_qg 9 hTok hOps (by kernel_rfl) rfl rfl ⟨?_, ?_, ?_⟩; rotate_left; (focus (intro wx hSx; (try dsimp only at hSx); go_simp; (try with_reducible rfl))); (simp only [Act.put, List.setIfInBounds_toArray, List.set_cons_zero, List.set_cons_succ]))
            (refine wpTree_qn 10 hTok hOps (by kernel_rfl) rfl rfl ?_; (try simp only [Act.put, List.setIfInBounds_toArray, List.set_cons_zero, List.set_cons_succ]))
            (refine wpTree_qn 11 hTok hOps (by kernel_rfl) rfl rfl ?_; (try simp only [Act.put, List.setIfInBounds_toArray, List.set_cons_zero, List.set_cons_succ]))
            (refine wpTree_qn 12 hTok hOps (by kernel_rfl) rfl rfl ?_; (try simp only [Act.put, List.setIfInBounds_toArray, List.set_cons_zero, List.set_cons_succ]))
            (refine wpTree_qn 13 hTok hOps (by kernel_rfl) rfl rfl ?_; (try simp only [Act.put, List.setIfInBounds_toArray, List.set_cons_zero, List.set_cons_succ]))
            refine wpTree_nil hOps (by kernel_rfl) ?_
            refine hT.out _ _ ?_
            simp only [List.drop_succ_cons, List.drop_zero]
            clear hOps hT hTok hHeld
            have hbwd : Below w.heap.size w wn.drew := hbwn.drew
            clear hbwn hsf hdn
            go_wp2_with fail
            refine (nil_crash _ _).mono ?_
            rintro e y1 ⟨⟨vy1, rfl⟩, hy1⟩
            replace hy1 := hbwd.trans (hy1.mono hbwd.size)
            clear hbwd
            dsimp only
            go_wp2_with fail
            refine (nil_fail _ _).mono ?_
            rintro e yy ⟨⟨vy2, rfl⟩, hyy⟩
            obtain rfl : y1 = yy := hyy.symm
            dsimp only
            go_wp2_with fail
            refine (nil_read _ _).mono ?_
            rintro e yy ⟨rfl, hyy⟩
            obtain rfl : y1 = yy := hyy.symm
            dsimp only
            go_wp2_with fail
            refine (nil_write _ _ _).mono ?_
            rintro e yy ⟨rfl, hyy⟩
            obtain rfl : y1 = yy := hyy.symm
            dsimp only
            go_wp2_with fail
            refine (nil_sync _ _).mono ?_
            rintro e y2 ⟨rfl, hy2⟩
            replace hy2 := hy1.trans (hy2.mono hy1.size)
            clear hy1
            dsimp only
            go_wp2_with fail
            refine (nil_cut _ _ _).mono ?_
            rintro e yy ⟨rfl, hyy⟩
            obtain rfl : y2 = yy := hyy.symm
            dsimp only
            go_wp2_with fail
            refine (nil_remove _ _).mono ?_
            rintro e yy ⟨rfl, hyy⟩
            obtain rfl : y2 = yy := hyy.symm
            dsimp only
            go_wp2_with fail
            refine (nil_limit _ _).mono ?_
            rintro e yy ⟨rfl, hyy⟩
            obtain rfl : y2 = yy := hyy.symm
            dsimp only
            go_wp2_with fail
            refine (nil_copy _).mono ?_
            rintro e yy ⟨rfl, hyy⟩
            obtain rfl : y2 = yy := hyy.symm
            dsimp only
            go_wp2_with fail
            refine (nil_used _).mono ?_
            rintro e yy ⟨rfl, hyy⟩
            obtain rfl : y2 = yy := hyy.symm
            dsimp only
            go_wp2_with fail
            go_ret
            exact ⟨rfl, hy2⟩
end Go.Proofs.Ytjhbeahkojippaa
