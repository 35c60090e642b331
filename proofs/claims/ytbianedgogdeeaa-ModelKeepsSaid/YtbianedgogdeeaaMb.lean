/- Model: pairs as they lie; a value behind its rounds; the values of each key. -/
import Derived.Test.YtbianedgogdeeaaMa
import Derived.Test.YtbianedgogdeeaaL4
import Derived.Test.YtbianedgogdeeaaL8
import Derived.Test.YtbianedgogdeeaaFall
namespace Go.Proofs.Ytbianedgogdeeaa
open Go.RowKit Go.Maps Fold
attribute [local go_sem] Oper.semAt_some
set_option linter.unusedVariables false
set_option linter.unusedSimpArgs false

/-- A pair as it lies. -/
def encR (p : PR) : List Value := [.string p.1, .int .u32 (p.2 : Nat)]
theorem encR_len (p : PR) : (encR p).length = 2 := rfl
theorem encR_one (p : PR) : ∀ u ∈ encR p, u.oneCell' = true := by
  intro u hu
  simp only [encR, List.mem_cons, List.not_mem_nil, or_false] at hu
  rcases hu with rfl | rfl <;> rfl
def okR (p : PR) : Prop := p.1.size ≤ maxLen ∧ p.2 < 4294967296
abbrev PrA (B : Nat) (w : World) (ao : Option Addr) (cap : Nat) (l : PRS) : Prop := SlA B 2 (fun _ cs p => cs = encR p) w ao cap l
abbrev OwnR (w : World) (base : Nat) (v : Value) (l : PRS) : Prop := OwnL encR w base 53 2 v l
theorem infoR : (Try.prog.info? 53).map (fun i => (i.zero, i.size, i.bytes)) = some (some (.agg #[.string ⟨#[]⟩, .int .u32 0]), 2, 24) := by kernel_rfl
theorem partsR : ∃ i, Try.prog.info? 53 = some i ∧ i.zero = some (.agg #[.string ⟨#[]⟩, .int .u32 0]) ∧ i.size = 2 ∧ i.bytes = 24 := infoParts infoR
theorem PrA.at {B : Nat} {w : World} {b off cap i : Nat} {l : PRS} (h : PrA B w (some ⟨b, off, none⟩) cap l) (hi : i < l.length) :
    w.cell? ⟨b, off + i * 2, none⟩ = some (.string l[i].1) ∧ w.cell? ⟨b, off + i * 2 + 1, none⟩ = some (.int .u32 (l[i].2 : Nat)) := by
  obtain ⟨cs, _, hc, rfl⟩ := h.get i hi
  exact ⟨by have := hc 0 (by omega); simpa [encR] using this, by have := hc 1 (by omega); simpa [Nat.add_assoc, encR] using this⟩
theorem PrA.imp' {B B' : Nat} {w w' : World} {ao : Option Addr} {cap : Nat} {l : PRS} (h : PrA B w ao cap l) (hb : Below B w w') (hB : B ≤ B') : PrA B' w' ao cap l := h.imp hb hB (fun _ _ _ h => h)
theorem OwnR.pra {w : World} {base : Nat} {v : Value} {l : PRS} (h : OwnR w base v l) : ∃ ao cap, v = .slice ao l.length cap ∧ PrA w.heap.size w ao cap l := h.sla encR_len (fun _ _ => rfl)
def prOf (x : TPair) : PR := (x.fKey, x.fVal.toNat)
theorem RPair.pr {B : Nat} {w : World} {cs : List Value} {x : TPair} (h : RPair B w cs x) : cs = encR (prOf x) ∧ okR (prOf x) := by
  obtain ⟨rfl, h0, h1⟩ := h
  have := bounds_u32 h1
  exact ⟨by simp [encR, prOf]; omega, h0, by simp [prOf]; omega⟩
theorem SlA.mapped {α β : Type} {B sz : Nat} {E : World → List Value → α → Prop} {E' : World → List Value → β → Prop} {w : World} {ao : Option Addr} {cap : Nat} {xs : List α} (f : α → β) (h : SlA B sz E w ao cap xs) (hE : ∀ cs x, x ∈ xs → E w cs x → E' w cs (f x)) : SlA B sz E' w ao cap (xs.map f) := by
  obtain ⟨h1, h2, h3, h4⟩ := h
  refine ⟨by simpa using h1, h2, h3, fun hne => ?_⟩
  obtain ⟨b, off, e, hb, h5⟩ := h4 (by simpa using hne)
  refine ⟨b, off, e, hb, fun i hi => ?_⟩
  have hi' : i < xs.length := by simpa using hi
  obtain ⟨cs, hl, hc, hr⟩ := h5 i hi'
  exact ⟨cs, hl, hc, by rw [List.getElem_map]; exact hE cs _ (List.getElem_mem _) hr⟩
theorem SlA.all {α : Type} {B sz : Nat} {E : World → List Value → α → Prop} {w : World} {ao : Option Addr} {cap : Nat} {xs : List α} (h : SlA B sz E w ao cap xs) : ∀ x ∈ xs, ∃ cs, E w cs x := by
  intro x hx
  obtain ⟨i, hi, rfl⟩ := List.getElem_of_mem hx
  obtain ⟨b, off, _, _, h5⟩ := h.addr (by omega)
  obtain ⟨cs, _, _, hr⟩ := h5 i hi
  exact ⟨cs, hr⟩
theorem pra_of_in {B : Nat} {w : World} {ao : Option Addr} {cap : Nat} {xs : List TPair} (h : SlA B 2 (RPair B) w ao cap xs) : PrA B w ao cap (xs.map prOf) ∧ ∀ p ∈ xs.map prOf, okR p :=
  ⟨SlA.mapped prOf h (fun cs x _ hx => (RPair.pr hx).1), fun p hp => by
    obtain ⟨x, hx, rfl⟩ := List.mem_map.1 hp
    obtain ⟨cs, hr⟩ := SlA.all h x hx
    exact (RPair.pr hr).2⟩

/-- A number as it lies. -/
def encV (n : Nat) : List Value := [.int .u32 (n : Nat)]
theorem encV_len (n : Nat) : (encV n).length = 1 := rfl
theorem encV_one (n : Nat) : ∀ u ∈ encV n, u.oneCell' = true := by
  intro u hu
  simp only [encV, List.mem_singleton] at hu
  subst hu; rfl
theorem infoV : (Try.prog.info? 45).map (fun i => (i.zero, i.size, i.bytes)) = some (some (.int .u32 0), 1, 4) := by kernel_rfl
theorem partsV : ∃ i, Try.prog.info? 45 = some i ∧ i.zero = some (.int .u32 0) ∧ i.size = 1 ∧ i.bytes = 4 := infoParts infoV
theorem UR.of_vals {w : World} {base : Nat} {v : Value} {l : List Nat} (h : OwnL encV w base 45 1 v l) (hlt : ∀ x ∈ l, x < 4294967296) : ∃ ao cap, v = .slice ao l.length cap ∧ UR w w.heap.size ao cap l := by
  obtain ⟨ao, cap, rfl, h1, h2, h3, h4⟩ := h.sla (E := fun _ cs x => cs = encV x) encV_len (fun _ _ => rfl)
  refine ⟨ao, cap, rfl, h1, h2, h3, fun hne => ?_, hlt⟩
  obtain ⟨b, off, e, hb, h5⟩ := h4 hne
  refine ⟨b, off, e, hb, fun k hk => ?_⟩
  obtain ⟨cs, _, hc, rfl⟩ := h5 k hk
  have := hc 0 (by omega)
  simpa [encV] using this

theorem mapN_lt (w : Int) (n v : Nat) (hn : n < 4294967296) (hv : v < 4294967296) : mapN w n v < 4294967296 := by
  unfold mapN
  split; · omega
  split; · omega
  split; · exact Nat.xor_lt_two_pow (n := 32) hv hn
  split; · exact Nat.lt_of_le_of_lt (Nat.div_le_self _ _) hv
  split; · exact hn
  split; · omega
  omega
theorem loopV_lt (arg : Int) (num : Nat) (test : Int) (lim : Nat) (hn : num < 4294967296) : ∀ (r v : Nat), v < 4294967296 → loopV arg num test lim r v < 4294967296
  | 0, v, h => h
  | r + 1, v, h => by
    have h1 := mapN_lt arg num v hn h
    unfold loopV
    split
    · exact h1
    · exact loopV_lt arg num test lim hn r _ h1

set_option maxRecDepth 100000 in
set_option maxHeartbeats 1000000 in
theorem looped_any (kind arg test : Int) (ao : Option Addr) (len cap num lim R v : Nat) (w : World) (hn : num < 4294967296) (hl : lim < 4294967296) (hR : R ≤ 1000) (hv : v < 4294967296) :
    Calls Try.prog 34 #[.agg #[.int .i64 kind, .slice ao len cap, .int .i64 arg, .int .u32 num, .int .i64 R, .int .i64 test, .int .u32 lim], .int .u32 v] w fun e w' => e = .returned (.int .u32 (loopV arg num test lim R v : Nat)) ∧ Below w.heap.size w w' := by
  have hmap := fun v W hv => map_any arg num v W hn hv
  have htest := fun v W hv => test_any test lim v W hl hv
  have hlt := fun v hv => mapN_lt arg num v hn hv
  obtain ⟨tg, htg⟩ : ∃ tg, tg = loopV arg num test lim R v := ⟨_, rfl⟩
  rw [← htg]
  replace htg : Hid (loopV arg num test lim (R - 0) v = tg) := Lib.hid htg.symm
  replace hmap := Lib.hid hmap
  replace htest := Lib.hid htest
  replace hlt := Lib.hid hlt
  go_enter Try.func34, Try.ntmps34
  go_upto_region 1 with fail
  refine Code.wp_world ?_
  intro w1 hw1
  have hb1 : Below w.heap.size w w1 := by rw [hw1]; exact belowAlloc _ _
  have hB1 : Blk w1 w.heap.size #[.int .i64 kind, .slice ao len cap, .int .i64 arg, .int .u32 num, .int .i64 R, .int .i64 test, .int .u32 lim] 51 := by rw [hw1]; exact Blk.new _ _ _
  obtain ⟨ob, hob⟩ : ∃ ob, ob = w.heap.size := ⟨_, rfl⟩
  rw [← hob] at hB1 ⊢
  have c2 := hB1.cellAt (i := 2) (v := .int .i64 arg) rfl
  have c3 := hB1.cellAt (i := 3) (v := .int .u32 num) rfl
  have c4 := hB1.cellAt (i := 4) (v := .int .i64 R) rfl
  have c5 := hB1.cellAt (i := 5) (v := .int .i64 test) rfl
  have c6 := hB1.cellAt (i := 6) (v := .int .u32 lim) rfl
  clear hw1 hB1
  replace hob := Lib.hid hob
  go_wp2_with fail
  go_loopw [1, 7] (fun x1 x7 wr => ∃ (i u : Nat), i ≤ R ∧ x7 = .int .i64 i ∧ x1 = .int .u32 u ∧ u < 4294967296 ∧ wr = w1 ∧ Hid (loopV arg num test lim (R - i) u = tg)) (fun _ x7 _ => R - (intOf x7).toNat)
  case atStart => exact ⟨0, v, Nat.zero_le _, rfl, rfl, hv, rfl, htg⟩
  case round =>
    clear htg hv
    obtain ⟨i, u, hi, rfl, rfl, hu, rfl, ht⟩ := hrel
    by_cases hin : i < R
    · have d1 : decide ((i : Int) < (R : Int)) = true := by simp; omega
      obtain ⟨m, hm⟩ : ∃ m, m = mapN arg num u := ⟨_, rfl⟩
      have hm1 := hmap.out u wr hu
      have hml := hlt.out u hu
      rw [← hm] at hm1 hml
      have ht1 := htest.out m wr hml
      have hstep : loopV arg num test lim (R - i) u = if testB test lim m then m else loopV arg num test lim (R - (i + 1)) m := by
        rw [show R - i = (R - (i + 1)) + 1 by omega, loopV, ← hm]
      have ht2 := ht.out
      rw [hstep] at ht2
      clear hm hstep ht
      cases hb : testB test lim m with
      | true =>
        rw [hb] at ht1 ht2
        rw [if_pos rfl] at ht2
        replace hm1 := Lib.hid hm1
        replace ht1 := Lib.hid ht1
        replace ht2 := Lib.hid ht2
        clear hb
        go_wp2_with (first | (go_at_call 33; refine hm1.out.mono ?_; rintro e w' ⟨rfl, rfl⟩) | (go_at_call 35; refine ht1.out.mono ?_; rintro e w' ⟨rfl, rfl⟩))
        go_ret
        exact ⟨congrArg (fun n : Nat => Ending.returned (Value.int .u32 n)) ht2.out, hb1⟩
      | false =>
        rw [hb] at ht1 ht2
        rw [if_neg (by simp)] at ht2
        replace hm1 := Lib.hid hm1
        replace ht1 := Lib.hid ht1
        replace ht2 := Lib.hid ht2
        clear hb
        go_wp2_with (first | (go_at_call 33; refine hm1.out.mono ?_; rintro e w' ⟨rfl, rfl⟩) | (go_at_call 35; refine ht1.out.mono ?_; rintro e w' ⟨rfl, rfl⟩))
        go_roundw
        case rel => exact ⟨i + 1, m, by omega, by go_num, rfl, hml, trivial, ht2⟩
        case measure => simp [intOf]; omega
    · have d1 : decide ((i : Int) < (R : Int)) = false := by simp; omega
      have ht2 := ht.out
      rw [show R - i = 0 by omega, loopV] at ht2
      replace ht2 := Lib.hid ht2
      clear ht
      go_wp2_with fail
      go_ret
      exact ⟨congrArg (fun n : Nat => Ending.returned (Value.int .u32 n)) ht2.out, hb1⟩
end Go.Proofs.Ytbianedgogdeeaa
