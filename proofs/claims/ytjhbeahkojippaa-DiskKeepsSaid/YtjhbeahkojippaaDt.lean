/- Disk (as for Wire): Apart. -/
import Derived.Test.YtjhbeahkojippaaDs
namespace Go.Proofs.Ytjhbeahkojippaa
open Go.RowKit
set_option linter.unusedVariables false

structure Sl where
  ao : Option Addr
  len : Nat
  cap : Nat
def sv (s : Sl) : Value := .slice s.ao s.len s.cap
def encS (s : Sl) : List Value := [sv s]
theorem encS_len (s : Sl) : (encS s).length = 1 := rfl
theorem encS_one (s : Sl) : ∀ u ∈ encS s, u.oneCell' = true := by
  intro u hu
  simp only [encS, sv, List.mem_cons, List.not_mem_nil, or_false] at hu
  rw [hu]; rfl
theorem infoS : (Try.prog.info? 23).map (fun i => (i.zero, i.size, i.bytes)) = some (some (.slice none 0 0), 1, 24) := by kernel_rfl

theorem wpList_app_byte (w : World) {ops : Array Oper} {rest : List Oper} {o : Oper} {a : Act} {Q : Exit → Act → World → Prop} (hgd : o.guard = none) (s x : Operand)
    (ho : o.op = .call { callee := .builtin .append, args := #[s, x], argTypes := #[23, 23] })
    {v : Value} {m k : Nat} (h : RowJ w v m m k) (hm : m + 1 ≤ 1000000) {i0 : TypeInfo} (hi : Try.prog.info? 5 = some i0) (hz : i0.zero = some (.int .u8 0)) (h1 : i0.size = 1) (h2 : i0.bytes = 1)
    (hs : a.eval s = v) {ad : Addr} (hx : a.eval x = .slice (some ad) 1 1) (ha : w.cell? (ad.add 0) = some (.int .u8 k))
    (hK : ∀ v' w', RowJ w' v' (m + 1) (m + 1) k → (v'.ownBlock = v.ownBlock ∨ ∃ g, v'.ownBlock = some g ∧ w.heap.size ≤ g) → v' ≠ .slice none 0 0 → Chg (fun b => v.ownBlock = some b) w w' →
      (∀ (u : Value) (mu j q : Nat), RowJ w u mu j q → (u.ownBlock = v.ownBlock → j ≤ m) → RowJ w' u mu j q) → wpList Try.prog ops Q rest (a.put o.dst v') w') : wpList Try.prog ops Q (o :: rest) a w := by
  obtain ⟨v', w', hr, q1, q2, q3, q4, q5⟩ := run_app_byte w o.type h hm hi hz h1 h2 ha
  exact Lib.wpList_append_run w hgd s x 23 23 ho v _ hs hx v' w' hr (hK v' w' q1 q2 q3 q4 q5)

/-- The rows, row i's first f i bytes being i. -/
def Rws (w : World) (ss : List Sl) (f : Nat → Nat) : Prop := ∀ (i : Nat) (s : Sl), ss[i]? = some s → RowJ w (sv s) s.len (f i) i
theorem wrap8 {k : Nat} (h : k < 256) : IntKind.u8.wrap (k : Int) = k := by rw [IntKind.wrap_u8]; omega

def disj (v u : Value) : Prop := ∀ g, v.ownBlock = some g → u.ownBlock ≠ some g
theorem own_ne {w : World} {base : Nat} {v u : Value} {gs : List Sl} {m j k : Nat} (h : OwnL encS w base 23 1 v gs) (hu : RowJ w u m j k) : ∀ g, v.ownBlock = some g → u.ownBlock ≠ some g := by
  intro g hg
  rcases h.form with ⟨rfl, _⟩ | ⟨g', cap, cells, rfl, hb, _⟩
  · simp [Value.ownBlock] at hg
  · cases hg; exact hu.ne hb (by decide)
theorem RowJ.none0 {w : World} {v : Value} {m j k : Nat} (h : RowJ w v m j k) (hn : v.ownBlock = none) : j = 0 := by
  rcases h with ⟨_, _, h⟩ | ⟨g, cap, cells, rfl, _⟩
  · exact h
  · cases hn
theorem own_cell {w : World} {base : Nat} {ao : Option Addr} {nn cap a : Nat} {gs : List Sl} {g : Sl} {T : TypeId} (h : OwnL encS w base T 1 (.slice ao nn cap) gs) (hg : gs[a]? = some g) : ∃ G, ao = some ⟨G, 0, none⟩ ∧ w.cell? ⟨G, a, none⟩ = some (sv g) := by
  have ha := (List.getElem?_eq_some_iff.1 hg).1
  rcases h.form with ⟨_, h0⟩ | ⟨G, cap', cells, hv, hb, _, _, _, _, _, h8⟩
  · rw [h0] at ha; simp at ha
  · have hv2 : ao = some ⟨G, 0, none⟩ := by injection hv
    refine ⟨G, hv2, ?_⟩
    rw [hb.cell]
    have h9 := flat_at (enc := encS) (size := 1) encS_len gs a 0 ha (by omega)
    rw [← h8, List.getElem?_take, if_pos (by omega), Nat.mul_one, Nat.add_zero] at h9
    rw [← Array.getElem?_toList, h9]
    rw [List.getElem?_eq_getElem ha] at hg
    simp only [Option.some.injEq] at hg
    rw [hg]
    rfl
theorem RowJ.addr {w : World} {ao : Option Addr} {m cap j k i : Nat} (h : RowJ w (.slice ao m cap) m j k) (hi : i < m) : ∃ g, ao = some ⟨g, 0, none⟩ := by
  rcases h with ⟨_, h2, _⟩ | ⟨g, cap', cells, h1, _⟩
  · omega
  · cases h1; exact ⟨g, rfl⟩
/-- The state of the second loop: gs have been grown, c is growing (row k). -/
structure A2 (w wx : World) (S : Nat → Prop) (ss gs : List Sl) (x5 : Value) (k : Nat) (c : Sl) : Prop where
  own : OwnL encS wx w.heap.size 23 1 x5 gs
  chg : Chg S w wx
  full : ∀ (i : Nat) (s : Sl), ss[i]? = some s → RowJ wx (sv s) s.len s.len i
  grown : ∀ (i : Nat) (g : Sl), gs[i]? = some g → RowJ wx (sv g) g.len g.len i
  cur : RowJ wx (sv c) c.len c.len k
  d1 : ∀ (i : Nat) (t : Sl), ss[i]? = some t → i ≠ k → disj (sv c) (sv t)
  d2 : ∀ (i : Nat) (t : Sl), gs[i]? = some t → disj (sv c) (sv t)
  dS : ∀ g, (sv c).ownBlock = some g → g < w.heap.size → S g
  lk : ∀ s, ss[k]? = some s → s.len ≤ c.len
variable {w wx w' : World} {S : Nat → Prop} {ss gs : List Sl} {x5 : Value} {k : Nat} {c : Sl}
theorem A2.alloc (h : A2 w wx S ss gs x5 k c) (o : Obj) : A2 w (wx.alloc o) S ss gs x5 k c := by
  have hh : ∀ (v : Value) (m j q : Nat), RowJ wx v m j q → RowJ (wx.alloc o) v m j q := fun v m j q hr => hr.heap fun g hg => (belowAlloc wx o).block g (hr.lt g hg)
  exact ⟨h.own.alloc o, h.chg.alloc o, fun i s hs => hh _ _ _ _ (h.full i s hs), fun i g hg => hh _ _ _ _ (h.grown i g hg), hh _ _ _ _ h.cur, h.d1, h.d2, h.dS, h.lk⟩
theorem A2.app (h : A2 w wx S ss gs x5 k c) {c' : Sl} (q1 : RowJ w' (sv c') c'.len c'.len k) (hl : c'.len = c.len + 1) (q2 : (sv c').ownBlock = (sv c).ownBlock ∨ ∃ g, (sv c').ownBlock = some g ∧ wx.heap.size ≤ g)
    (q4 : Chg (fun b => (sv c).ownBlock = some b) wx w') (q5 : ∀ (u : Value) (mu j q : Nat), RowJ wx u mu j q → (u.ownBlock = (sv c).ownBlock → j ≤ c.len) → RowJ w' u mu j q) : A2 w w' S ss gs x5 k c' := by
  have hdis : ∀ (u : Value) (mu j q : Nat), RowJ wx u mu j q → disj (sv c) u → RowJ w' u mu j q := fun u mu j q hu hd => q5 u mu j q hu fun he => by
    cases hc : (sv c).ownBlock with
    | none => rw [hc] at he; rw [hu.none0 he]; exact Nat.zero_le _
    | some g => rw [hc] at he; exact absurd he (hd g hc)
  have hds : ∀ (u : Value) (mu j q : Nat), RowJ wx u mu j q → disj (sv c) u → disj (sv c') u := fun u mu j q hu hd g hg => by
    rcases q2 with e | ⟨g', e, hg'⟩
    · rw [e] at hg; exact hd g hg
    · rw [e] at hg; cases hg
      intro hu2
      have := hu.lt g hu2
      omega
  refine ⟨h.own.chg q4 (fun g hg he => own_ne h.own h.cur g hg he), h.chg.then_new q4 (fun i hi he => h.dS i he hi), fun i s hs => ?_, fun i g hg => hdis _ _ _ _ (h.grown i g hg) (h.d2 i g hg), q1,
    fun i t ht hik => hds _ _ _ _ (h.full i t ht) (h.d1 i t ht hik), fun i t ht => hds _ _ _ _ (h.grown i t ht) (h.d2 i t ht), fun g hg hgw => ?_, fun s hs => by have := h.lk s hs; omega⟩
  · by_cases hik : i = k
    · subst hik
      exact q5 _ _ _ _ (h.full i s hs) (fun _ => h.lk s hs)
    · exact hdis _ _ _ _ (h.full i s hs) (h.d1 i s hs hik)
  · rcases q2 with e | ⟨g', e, hg'⟩
    · rw [e] at hg; exact h.dS g hg hgw
    · rw [e] at hg; cases hg
      have := h.chg.size
      omega

set_option maxRecDepth 100000 in
set_option maxHeartbeats 4000000 in
theorem apart_any (ss : List Sl) (lb : Nat) (w : World) (hN : ss.length ≤ 200) (hL : Blk w lb (ss.map sv).toArray 23) (hR : Rws w ss (fun _ => 0))
    (hD : ∀ (i j : Nat) (s t : Sl), ss[i]? = some s → ss[j]? = some t → i ≠ j → (sv s).ownBlock = none ∨ (sv s).ownBlock ≠ (sv t).ownBlock) (hlen : ∀ s ∈ ss, s.len ≤ 600000) (B : Nat) (hB : ∀ (i : Nat) (s : Sl) (g : Nat), ss[i]? = some s → (sv s).ownBlock = some g → B ≤ g) (hBw : B ≤ w.heap.size) :
    Calls Try.prog 21 #[.slice (some ⟨lb, 0, none⟩) ss.length ss.length] w fun e w' => e = .returned (.bool true) ∧ Chg (fun b => ∃ s ∈ ss, (sv s).ownBlock = some b) w w' := by
  obtain ⟨S, hS⟩ : ∃ S, S = fun b => ∃ s ∈ ss, (sv s).ownBlock = some b := ⟨_, rfl⟩
  rw [← hS]
  have hSin : ∀ {i : Nat} {s : Sl} {g : Nat}, ss[i]? = some s → (sv s).ownBlock = some g → S g := fun {i s g} h1 h2 => by rw [hS]; exact ⟨s, List.mem_of_getElem? h1, h2⟩
  have hlbS : ¬ S lb := by
    rw [hS]
    rintro ⟨s, hs, hg⟩
    obtain ⟨i, hi, rfl⟩ := List.mem_iff_getElem.1 hs
    exact (hR i _ (List.getElem?_eq_getElem hi)).ne hL (by decide) hg
  have hlbw := hL.lt
  have hlb : ∀ (u : World), Chg S w u → ∀ (k : Nat) (s : Sl), ss[k]? = some s → u.cell? ⟨lb, k, none⟩ = some (sv s) := by
    intro u hu k s hk
    rw [hu.cell (p := ⟨lb, k, none⟩) hlbw hlbS, hL.cell]
    simp [hk]
  have hll : ∀ (k : Nat) (s : Sl), ss[k]? = some s → s.len ≤ 600000 := fun k s h => hlen s (List.mem_of_getElem? h)
  obtain ⟨n, hn⟩ : ∃ n, n = ss.length := ⟨_, rfl⟩
  rw [← hn] at hN ⊢
  have hget : ∀ k, k < n → ∃ s, ss[k]? = some s := fun k hk => ⟨_, List.getElem?_eq_getElem (by rw [← hn]; exact hk)⟩
  have hlt : ∀ {k : Nat} {s : Sl}, ss[k]? = some s → k < n := fun {k s} h => by rw [hn]; exact (List.getElem?_eq_some_iff.1 h).1
  replace hn := Lib.hid hn
  replace hlb := Lib.hid hlb
  clear hlen hS
  go_enter Try.func21, Try.ntmps21
  go_wp2_with fail
  go_loopw [3] (fun x3 wr => ∃ k : Nat, k ≤ n ∧ x3 = .int .i64 k ∧ Chg S w wr ∧ ∀ (i : Nat) (s : Sl), ss[i]? = some s → RowJ wr (sv s) s.len (if i < k then s.len else 0) i) (fun x3 _ => n - (intOf x3).toNat)
  case atStart => exact ⟨0, Nat.zero_le _, rfl, Chg.refl _ _, fun i s h => by rw [if_neg (by omega)]; exact hR i s h⟩
  case round =>
    clear hR
    obtain ⟨k, hk, rfl, hch, hrows⟩ := hrel
    by_cases hkn : k < n
    · obtain ⟨s, hsk⟩ := hget k hkn
      have hsl := hll k s hsk
      have c0 := hlb.out wr hch k s hsk
      have hw8 := wrap8 (k := k) (by omega)
      obtain ⟨ao, m, cap⟩ := s
      rw [show sv ⟨ao, m, cap⟩ = .slice ao m cap from rfl] at c0
      dsimp only at hsl
      go_wp2_with fail
      go_loopw [4] (fun x4 wx => ∃ i : Nat, i ≤ m ∧ x4 = .int .i64 i ∧ Chg S w wx ∧ ∀ (q : Nat) (s : Sl), ss[q]? = some s → RowJ wx (sv s) s.len (if q < k then s.len else if q = k then i else 0) q) (fun x4 _ => m - (intOf x4).toNat)
      case atStart => exact ⟨0, Nat.zero_le _, rfl, hch, fun q s h => by have := hrows q s h; split; · rw [if_pos (by assumption)] at this; exact this
                                                                         · rw [if_neg (by assumption)] at this; split <;> exact this⟩
      case round =>
        clear hrows hch c0
        obtain ⟨i, him, rfl, hch, hrows⟩ := hrel
        have c0 := hlb.out wr hch k _ hsk
        rw [show sv ⟨ao, m, cap⟩ = .slice ao m cap from rfl] at c0
        by_cases hi : i < m
        · have hrk := hrows k _ hsk
          rw [if_neg (by omega), if_pos rfl] at hrk
          rw [show sv ⟨ao, m, cap⟩ = .slice ao m cap from rfl] at hrk
          dsimp only at hrk
          have hao : ∃ g, ao = some ⟨g, 0, none⟩ := by
            rcases hrk with ⟨h1, h2, _⟩ | ⟨g, cap', cells, h1, _⟩
            · omega
            · cases h1; exact ⟨g, rfl⟩
          obtain ⟨g, rfl⟩ := hao
          obtain ⟨⟨v, q0⟩, f0, _⟩ := hrk.cell hi
          have hset : ∀ (q : Nat) (s : Sl), ss[q]? = some s → RowJ (wr.setCell ⟨g, i, none⟩ (.int .u8 k)) (sv s) s.len (if q < k then s.len else if q = k then i + 1 else 0) q := by
            intro q s hq
            by_cases hqk : q = k
            · subst hqk
              rw [hsk] at hq
              cases hq
              rw [if_neg (by omega), if_pos rfl]
              exact hrk.step hi
            · have h3 := hrows q s hq
              have h4 : RowJ (wr.setCell ⟨g, i, none⟩ (.int .u8 k)) (sv s) s.len (if q < k then s.len else if q = k then i else 0) q := h3.set (fun h5 => by
                rcases hD q k s _ hq hsk hqk with h6 | h6
                · rw [h6] at h5; cases h5
                · exact absurd h5 (by rw [show (sv ⟨some ⟨g, 0, none⟩, m, cap⟩).ownBlock = some g from rfl] at h6; exact h6))
              rw [if_neg hqk] at h4 ⊢
              exact h4
          have hch2 := hch.setCell ⟨g, i, none⟩ (.int .u8 k) (fun _ => hSin hsk rfl)
          clear hrk hrows
          go_wp2_with fail
          go_roundw
          case rel => exact ⟨i + 1, by omega, rfl, hch2, hset⟩
          case measure => simp [intOf]; omega
        · obtain rfl : i = m := by omega
          go_wp2_with fail
          go_roundw
          case rel => exact ⟨k + 1, by omega, rfl, hch, fun q s h => by
            have h3 := hrows q s h
            by_cases hqk : q = k
            · subst hqk
              rw [hsk] at h
              cases h
              rw [if_neg (by omega), if_pos rfl] at h3
              rw [if_pos (by omega)]
              exact h3
            · by_cases hlk : q < k
              · rw [if_pos hlk] at h3; rw [if_pos (by omega)]; exact h3
              · rw [if_neg hlk, if_neg hqk] at h3; rw [if_neg (by omega)]; exact h3⟩
          case measure => simp [intOf]; omega
    · have hkn2 : k = n := by omega
      have hfull : Rws wr ss (fun i => (ss[i]?.map Sl.len).getD 0) := fun i s h => by
        have h3 := hrows i s h
        rw [if_pos (by have := hlt h; omega)] at h3
        simpa [h] using h3
      replace hfull : ∀ (i : Nat) (s : Sl), ss[i]? = some s → RowJ wr (sv s) s.len s.len i := fun i s h => by
        have h3 := hfull i s h
        simpa [h] using h3
      clear hrows
      obtain ⟨j0, hi, hz0, hz1, hz2⟩ := partsU
      obtain ⟨j1, hi1, hy0, hy1, hy2⟩ := infoParts infoS
      go_wp2_with fail
      go_loopw [5, 6] (fun x5 x6 wx => ∃ (k : Nat) (gs : List Sl), k ≤ n ∧ x6 = .int .i64 k ∧ gs.length = k ∧ OwnL encS wx w.heap.size 23 1 x5 gs ∧ Chg S w wx ∧ (∀ (i : Nat) (s : Sl), ss[i]? = some s → RowJ wx (sv s) s.len s.len i) ∧
        (∀ (i : Nat) (g : Sl), gs[i]? = some g → RowJ wx (sv g) g.len g.len i) ∧ (∀ (i : Nat) (g s : Sl), gs[i]? = some g → ss[i]? = some s → g.len = s.len + 5) ∧
        (∀ (i j : Nat) (g t : Sl), gs[i]? = some g → ss[j]? = some t → i ≠ j → disj (sv g) (sv t))) (fun _ x6 _ => n - (intOf x6).toNat)
      case atStart => exact ⟨0, [], Nat.zero_le _, rfl, rfl, OwnL.nil _ _ _ _ _, hch, hfull, by simp, by simp, by simp⟩
      case round =>
        clear hfull hch hkn hkn2
        obtain ⟨k, gs, hk, rfl, hgl, hown, hch, hfull, hgr, hgll, hgd⟩ := hrel
        by_cases hkn : k < n
        · obtain ⟨s, hsk⟩ := hget k hkn
          have hsl := hll k s hsk
          have c0 := hlb.out wr hch k s hsk
          have hw8 := wrap8 (k := k) (by omega)
          have hA0 : A2 w wr S ss gs u5 k s := ⟨hown, hch, hfull, hgr, hfull k s hsk, fun i t ht hik g hg htg => by
              rcases hD k i s t hsk ht (Ne.symm hik) with h6 | h6
              · rw [h6] at hg; cases hg
              · exact h6 (by rw [hg, htg]), fun i t ht g hg htg => hgd i k t s ht hsk (by have := (List.getElem?_eq_some_iff.1 ht).1; omega) g htg hg, fun g hg _ => hSin hsk hg, fun s' hs' => by rw [hsk] at hs'; cases hs'; exact Nat.le_refl _⟩
          obtain ⟨ao, m, cap⟩ := s
          rw [show sv ⟨ao, m, cap⟩ = .slice ao m cap from rfl] at c0
          dsimp only at hsl
          clear hown hch hfull hgr
          replace hgl := Lib.hid hgl
          go_wp2_with fail
          go_loopw [7, 8] (fun x7 x8 wx => ∃ (j cl cc : Nat) (cao : Option Addr), j ≤ 5 ∧ x8 = .int .i64 j ∧ x7 = .slice cao cl cc ∧ cl = m + j ∧ A2 w wx S ss gs u5 k ⟨cao, cl, cc⟩) (fun _ x8 _ => 5 - (intOf x8).toNat)
          case atStart => exact ⟨0, m, cap, ao, by omega, rfl, rfl, rfl, hA0⟩
          case round =>
            clear hA0 c0
            obtain ⟨j, cl, cc, cao, hj, rfl, rfl, hcl, hA⟩ := hrel
            replace hcl := Lib.hid hcl
            by_cases hj5 : j < 5
            · go_wp2_with (at_builtin; refine Shut.out ?kb)
              unfold Shut
              refine wpList_world ?_
              intro w3 hw3
              have hA3 : A2 w w3 S ss gs u5 k ⟨cao, cl, cc⟩ := by rw [hw3]; exact hA.alloc _
              have ha : w3.cell? ((⟨wr.heap.size, 0, none⟩ : Addr).add 0) = some (.int .u8 k) := by
                rw [hw3]
                exact (Blk.new wr #[.int .u8 k] 5).cellAt rfl
              clear hw3 hA
              refine wpList_app_byte _ rfl _ _ rfl hA3.cur (by have := hcl.out; dsimp only; omega) hi hz0 hz1 hz2 rfl rfl ha (fun v' w' q1 q2 q3 q4 q5 => ?_)
              dsimp only at q1 q5
              obtain ⟨g', cap', rfl⟩ : ∃ g' cap', v' = .slice (some ⟨g', 0, none⟩) (cl + 1) cap' := by
                rcases q1 with ⟨h1, _⟩ | ⟨g', cap', cells, h1, _⟩
                · exact absurd h1 q3
                · exact ⟨g', cap', h1⟩
              have hA4 := A2.app (c' := ⟨some ⟨g', 0, none⟩, cl + 1, cap'⟩) hA3 q1 rfl q2 q4 q5
              clear hA3 q1 q2 q3 q4 q5 ha
              go_wp2_with fail
              go_roundw
              case rel => exact ⟨j + 1, cl + 1, cap', some ⟨g', 0, none⟩, by omega, rfl, rfl, by have := hcl.out; omega, hA4⟩
              case measure => simp [intOf]; omega
            · obtain rfl : j = 5 := by omega
              obtain ⟨aov, capv, hvv, _, _, _⟩ := hA.own.slice
              go_wp2_with (at_builtin; refine Shut.out ?kc)
              unfold Shut
              refine wpList_app1g rfl _ _ 22 rfl Try.underlying22 hi1 hy0 hy1 hy2 rfl (by decide) (enc := encS) ⟨cao, cl, cc⟩ rfl hA.own rfl (encS_len _) (encS_one _) (by have := hgl.out; omega) (by have := hgl.out; unfold maxLen; omega) hA.chg.size (fun g7 cap7 w7 hown7 hgr7 => ?_)
              have hh : ∀ (v : Value) (mu jj q : Nat), RowJ wr v mu jj q → RowJ w7 v mu jj q := fun v mu jj q hr => hr.heap fun g hg => hgr7.grown.block g (hr.lt g hg) (fun he => own_ne hA.own hr g he.symm hg)
              have hch7 : Chg S w w7 := hA.chg.then_new (Chg.of_grown hgr7.grown) (fun i hi he => by have := (hA.own.lt i he).1; omega)
              have hfull7 : ∀ (i : Nat) (s : Sl), ss[i]? = some s → RowJ w7 (sv s) s.len s.len i := fun i s hs => hh _ _ _ _ (hA.full i s hs)
              have hnew : ∀ (i : Nat) (g : Sl), (gs ++ [⟨cao, cl, cc⟩])[i]? = some g → gs[i]? = some g ∨ (i = k ∧ g = ⟨cao, cl, cc⟩) := fun i g hg => by
                rcases Nat.lt_or_ge i gs.length with h1 | h1
                · left; rwa [List.getElem?_append_left h1] at hg
                · rw [List.getElem?_append_right h1] at hg
                  have h2 : i - gs.length = 0 := by
                    rcases Nat.eq_zero_or_pos (i - gs.length) with h | h
                    · exact h
                    · rw [List.getElem?_eq_none (by simp; omega)] at hg; cases hg
                  rw [h2] at hg
                  simp at hg
                  exact .inr ⟨by have := hgl.out; omega, hg.symm⟩
              have hgr7' : ∀ (i : Nat) (g : Sl), (gs ++ [⟨cao, cl, cc⟩])[i]? = some g → RowJ w7 (sv g) g.len g.len i := fun i g hg => by
                rcases hnew i g hg with h1 | ⟨rfl, rfl⟩
                · exact hh _ _ _ _ (hA.grown i g h1)
                · exact hh _ _ _ _ hA.cur
              have hgll7 : ∀ (i : Nat) (g s : Sl), (gs ++ [⟨cao, cl, cc⟩])[i]? = some g → ss[i]? = some s → g.len = s.len + 5 := fun i g s hg hs => by
                rcases hnew i g hg with h1 | ⟨rfl, rfl⟩
                · exact hgll i g s h1 hs
                · rw [hsk] at hs; cases hs; exact hcl.out
              have hgd7 : ∀ (i j : Nat) (g t : Sl), (gs ++ [⟨cao, cl, cc⟩])[i]? = some g → ss[j]? = some t → i ≠ j → disj (sv g) (sv t) := fun i j g t hg ht hij => by
                rcases hnew i g hg with h1 | ⟨rfl, rfl⟩
                · exact hgd i j g t h1 ht hij
                · exact hA.d1 j t ht (Ne.symm hij)
              have hlen7 : (gs ++ [(⟨cao, cl, cc⟩ : Sl)]).length = k + 1 := by have := hgl.out; simp; omega
              clear hA hgr7 hnew hh hgll hgd
              replace hlen7 := Lib.hid hlen7
              go_wp2_with fail
              go_roundw
              case rel => exact ⟨k + 1, gs ++ [⟨cao, cl, cc⟩], by omega, rfl, hlen7.out, hown7, hch7, hfull7, hgr7', hgll7, hgd7⟩
              case measure => simp [intOf]; omega
        · obtain rfl : k = n := by omega
          clear hgd hi hz0 hz1 hz2 hi1 hy0 hy1 hy2
          obtain ⟨aov, capv, hvv, _, _, _⟩ := hown.slice
          rw [hgl] at hvv
          subst hvv
          go_wp2_with fail
          obtain ⟨wo, hwo⟩ : ∃ wo : World, wo = wr := ⟨_, rfl⟩
          subst hwo
          go_loopw [9] (fun x9 wx => ∃ a : Nat, a ≤ k ∧ x9 = .int .i64 a ∧ wx = wo) (fun x9 _ => k - (intOf x9).toNat)
          case atStart => exact ⟨0, Nat.zero_le _, rfl, rfl⟩
          case round =>
            obtain ⟨a, hak, rfl, rfl⟩ := hrel
            by_cases hlta : a < k
            · obtain ⟨s, hsa⟩ := hget a hlta
              obtain ⟨g, hga⟩ : ∃ g, gs[a]? = some g := ⟨_, List.getElem?_eq_getElem (by rw [hgl]; exact hlta)⟩
              have hsl := hll a s hsa
              have c0 := hlb.out wr hch a s hsa
              obtain ⟨G, rfl, c1⟩ := own_cell hown hga
              have hw8 := wrap8 (k := a) (by omega)
              have hgm := hgll a g s hga hsa
              have hrg := hgr a g hga
              have hrs := hfull a s hsa
              obtain ⟨ao, m, cap⟩ := s
              obtain ⟨go, gm, gc⟩ := g
              rw [show sv ⟨ao, m, cap⟩ = .slice ao m cap from rfl] at c0 hrs
              rw [show sv ⟨go, gm, gc⟩ = .slice go gm gc from rfl] at c1 hrg
              dsimp only at hgm hsl hrg hrs
              have hgm2 : gm ≤ 900000 := by omega
              replace hgm := Lib.hid hgm
              have hne : ((a : Int) != (a : Int)) = false := by simp
              go_wp2_with fail
              obtain ⟨wp, hwp⟩ : ∃ wp : World, wp = wr := ⟨_, rfl⟩
              subst hwp
              go_loopw [10] (fun x10 wx => ∃ i : Nat, i ≤ gm ∧ x10 = .int .i64 i ∧ wx = wp) (fun x10 _ => gm - (intOf x10).toNat)
              case atStart => exact ⟨0, Nat.zero_le _, rfl, rfl⟩
              case round =>
                obtain ⟨i, him, rfl, rfl⟩ := hrel
                by_cases hig : i < gm
                · obtain ⟨gb, rfl⟩ := hrg.addr hig
                  have d0 := (hrg.cell hig).2.2 hig
                  by_cases hims : i < m
                  · have hdm : decide ((i : Int) < (m : Int)) = true := by simp; omega
                    obtain ⟨sb, rfl⟩ := hrs.addr hims
                    have d1 := (hrs.cell hims).2.2 hims
                    go_wp2_with fail
                    go_roundw
                    case rel => exact ⟨i + 1, by omega, rfl, by trivial⟩
                    case measure => simp [intOf]; omega
                  · have hdm : decide ((i : Int) < (m : Int)) = false := by simp; omega
                    go_wp2_with fail
                    go_roundw
                    case rel => exact ⟨i + 1, by omega, rfl, by trivial⟩
                    case measure => simp [intOf]; omega
                · obtain rfl : i = gm := by omega
                  go_wp2_with fail
                  go_roundw
                  case rel => exact ⟨a + 1, by omega, rfl, by trivial⟩
                  case measure => simp [intOf]; omega
            · go_wp2_with fail
              go_ret
              exact ⟨rfl, hch⟩
end Go.Proofs.Ytjhbeahkojippaa
