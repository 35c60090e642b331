/- Disk: how scripts read; DiskScripts. -/
import Derived.Test.YtjhbeahkojippaaD16
import Derived.Test.YtjhbeahkojippaaDq
import Derived.Test.YtjhbeahkojippaaTyStep
namespace Go.Proofs.Ytjhbeahkojippaa
open Go.RowKit Go.Maps Go.ChangeShapes Go.WideShapes
attribute [local go_sem] Oper.semAt_some
set_option linter.unusedVariables false
set_option linter.unusedSimpArgs false

/-- A step as it lies. -/
def StP (B : Nat) (w : World) (cs : List Value) (s : SM) : Prop :=
  ∃ (da : Option Addr) (dc : Nat) (pa : Option Addr) (pc : Nat), cs = [.int .i64 s.kind, .string s.name, .int .i64 s.pos, .slice da s.data.length dc, .slice pa s.picks.length pc] ∧ s.name.size ≤ maxLen ∧ SlA B 1 EU w da dc s.data ∧ SlA B 1 (RI .i64) w pa pc s.picks ∧ s.data.length ≤ 140737488355328
theorem StP.imp {B B' : Nat} {w w' : World} {cs : List Value} {s : SM} (h : StP B w cs s) (hb : Below B w w') (hB : B ≤ B') : StP B' w' cs s := by
  obtain ⟨da, dc, pa, pc, h1, h2, h3, h4, h5⟩ := h
  exact ⟨da, dc, pa, pc, h1, h2, h3.imp hb hB (fun cs x _ h => h), h4.imp hb hB (fun cs x _ h => h), h5⟩
theorem sla_u8 {B : Nat} {w : World} {ao : Option Addr} {cap : Nat} {zs : List Int} (h : SlA B 1 (RI .u8) w ao cap zs) : ∃ bs : List UInt8, bs.length = zs.length ∧ SlA B 1 EU w ao cap bs := by
  obtain ⟨h1, h2, h3, h4⟩ := h
  refine ⟨zs.map (fun z => UInt8.ofNat z.toNat), by simp, by simpa using h1, h2, h3, fun hne => ?_⟩
  obtain ⟨b, off, h5, h6, h7⟩ := h4 (fun e => hne (by rw [e]; rfl))
  refine ⟨b, off, h5, h6, fun i hi => ?_⟩
  have hi' : i < zs.length := by simpa using hi
  obtain ⟨cs, h8, h9, h10, h11⟩ := h7 i hi'
  refine ⟨cs, h8, h9, ?_⟩
  show cs = encU _
  rw [h10, List.getElem_map]
  have h12 : 0 ≤ zs[i] ∧ zs[i] < 256 := by
    simp [Lit.wf] at h11
    have m1 : IntKind.u8.min = 0 := by decide
    have m2 : IntKind.u8.max = 255 := by decide
    omega
  unfold encU
  rw [UInt8.toNat_ofNat']
  congr 2
  omega
section
variable {H : Type} {enc : TypeId × Value → H} {w : World} {held : Bool} {fuel : Nat} {cs : List Value} {x : DataW H × List MemPlace} {B : Nat}
set_option maxRecDepth 100000 in
theorem step_trod (h : DataW.trod enc Try.prog w 0 (fun _ => true) held fuel 47 cs = some x) (hp : ∀ p ∈ x.2, p.block < B) (hw : ∀ k ∈ x.1.weights Try.prog 47, k ≤ reachBytes) : ∃ s, StP B w cs s := by
  obtain ⟨a, ao3, cap3, ao4, cap4, hc, _, hn, _, h3, h4⟩ := RMillracelaw04Step.of_trod h hp
  obtain ⟨ys, n, _, rfl, hl, hlen, hf⟩ := DataW.trod_struct Try.underlying47 h
  have hl5 : ys.length = 5 := hlen
  have hi : 3 < ys.length := by omega
  subst hc
  have g1 : DataW.trod enc Try.prog w 0 (fun _ => true) held n 23 [.slice ao3 a.fData.length cap3] = ys[3]? := hf 3 _ rfl
  rw [List.getElem?_eq_getElem hi] at g1
  have hz := trod_len_sized Try.underlying23 g1 (part_sized (j := 3) Try.underlying47 rfl (by rw [List.getElem?_map, List.getElem?_eq_getElem hi]; rfl) hw)
  rw [byU] at hz
  obtain ⟨bs, hbl, hbs⟩ := sla_u8 h3
  have h6 : reachBytes ≤ 140737488355328 := by decide
  exact ⟨⟨a.fKind, a.fName, a.fAt, bs, a.fPicks⟩, ao3, cap3, ao4, cap4, by rw [hbl], hn, hbs, h4, by show bs.length ≤ _; omega⟩
theorem steps_trod (h : DataW.trod enc Try.prog w 0 (fun _ => true) held fuel 37 cs = some x) (hp : ∀ p ∈ x.2, p.block < B) (hw : ∀ k ∈ x.1.weights Try.prog 37, k ≤ reachBytes) : ∃ a, RSl B 5 (StP B) w cs a := by
  obtain ⟨ao, cap, xs, h1, h2⟩ := SlA.of_trodW (sz := 5) (E := StP B) (Wt := fun d => ∀ k ∈ d.weights Try.prog 47, k ≤ reachBytes) Try.underlying37 (by kernel_rfl) (by decide) h hp (fun elems sp e => elem_sized Try.underlying37 (by rw [← e]; exact hw)) (fun n cs y h hp hW => step_trod h hp hW)
  exact ⟨xs, ao, cap, h1, h2⟩
end
/-- A step of a script. -/
theorem SlA.stepAt {B : Nat} {w : World} {b off cap : Nat} {xs : List SM} (h : SlA B 5 (StP B) w (some ⟨b, off, none⟩) cap xs) {i : Nat} (hi : i < xs.length) :
    ∃ da dc pa pc, w.cell? ⟨b, off + i * 5, none⟩ = some (.int .i64 xs[i].kind) ∧ w.cell? ⟨b, off + i * 5 + 1, none⟩ = some (.string xs[i].name) ∧ w.cell? ⟨b, off + i * 5 + 2, none⟩ = some (.int .i64 xs[i].pos) ∧ w.cell? ⟨b, off + i * 5 + 3, none⟩ = some (.slice da xs[i].data.length dc) ∧ w.cell? ⟨b, off + i * 5 + 4, none⟩ = some (.slice pa xs[i].picks.length pc) ∧
      xs[i].name.size ≤ maxLen ∧ SlA B 1 EU w da dc xs[i].data ∧ SlA B 1 (RI .i64) w pa pc xs[i].picks ∧ xs[i].data.length ≤ 140737488355328 := by
  obtain ⟨cs, _, hc, da, dc, pa, pc, rfl, h1, h2, h3, h4⟩ := h.get i hi
  exact ⟨da, dc, pa, pc, by have := hc 0 (by omega); simpa [] using this, by have := hc 1 (by omega); simpa [Nat.add_assoc] using this, by have := hc 2 (by omega); simpa [Nat.add_assoc] using this, by have := hc 3 (by omega); simpa [Nat.add_assoc] using this, by have := hc 4 (by omega); simpa [Nat.add_assoc] using this, h1, h2, h3, h4⟩

theorem new_no (r : Int) (w : World) (h : r < 0 ∨ 1073741824 < r) :
    Calls Try.prog 9 #[.int .i64 r] w fun e w' => e = .returned (.tuple #[.pointer none, .int .i64 1]) ∧ w' = w := by
  rcases h with h1 | h1
  · have d1 : decide (r < 0) = true := by simp; omega
    go_enter Try.func9, Try.ntmps9
    go_wp2_with fail
    go_ret2
    exact ⟨rfl, rfl⟩
  · have d1 : decide (r < 0) = false := by simp; omega
    have d2 : decide (1073741824 < r) = true := by simp; omega
    go_enter Try.func9, Try.ntmps9
    go_wp2_with fail
    go_ret2
    exact ⟨rfl, rfl⟩
/-- The document's disk, empty. -/
theorem Rf.empty {w : World} {base : Nat} (r : Int) (hb : base ≤ w.heap.size) : Rf (w.alloc (.cells #[.int .i64 r, .bool false, .slice none 0 0, .slice none 0 0, .slice none 0 0] 45)) base w.heap.size ⟨.slice none 0 0, .slice none 0 0, .slice none 0 0, [], [], []⟩ (emptyM r) :=
  ⟨Blk.new _ _ _, OwnL.nil _ _ _ _ _, OwnL.nil _ _ _ _ _, OwnL.nil _ _ _ _ _, fun p hp => (by cases hp), fun p hp => (by cases hp), fun p hp => (by cases hp), rfl, rfl, rfl, hb⟩

set_option maxRecDepth 100000 in
set_option maxHeartbeats 4000000 in
theorem scripts_any (room : Int) (ao : Option Addr) (cap : Nat) (xs : List SM) (w : World) (hx : SlA w.heap.size 5 (StP w.heap.size) w ao cap xs) :
    Calls Try.prog 6 #[.int .i64 room, .slice ao xs.length cap] w fun e w' => e = .returned (.bool true) ∧ Below w.heap.size w w' := by
  obtain ⟨n, hn⟩ : ∃ n, n = xs.length := ⟨_, rfl⟩
  have hnl := hx.len
  rw [← hn] at hnl ⊢
  replace hn := Lib.hid hn
  go_enter Try.func6, Try.ntmps6
  go_wp2_with fail
  refine (known_any w).mono ?_
  rintro e w1 ⟨rfl, hb1⟩
  dsimp only
  by_cases hr : room < 0 ∨ 1073741824 < room
  · go_wp2_with fail
    refine (new_no room w1 hr).mono ?_
    rintro e w2 ⟨rfl, hw2⟩
    obtain ⟨w3, hw3⟩ : ∃ w3, w3 = w2 := ⟨_, rfl⟩
    rw [← hw3] at hw2 ⊢
    obtain rfl : w1 = w3 := hw2.symm
    clear hw3 hw2 hx
    dsimp only
    rcases hr with hr | hr
    · have d1 : decide (room < 0) = true := by simp; omega
      go_wp2_with fail
      go_ret
      exact ⟨rfl, hb1⟩
    · have d1 : decide (room < 0) = false := by simp; omega
      have d2 : decide (1073741824 < room) = true := by simp; omega
      go_wp2_with fail
      go_ret
      exact ⟨rfl, hb1⟩
  · have d1 : decide (room < 0) = false := by simp; omega
    have d2 : decide (1073741824 < room) = false := by simp; omega
    have hok0 := OkM.empty room (by omega) (by omega)
    go_wp2_with fail
    refine (new_any room w1 (by omega) (by omega)).mono ?_
    rintro e w2 ⟨b, x, rfl, hD, hb2, _, _, _⟩
    obtain ⟨base, hbase⟩ : ∃ base, base = w1.heap.size := ⟨_, rfl⟩
    rw [← hbase] at hD hb2
    have hwb : w.heap.size ≤ base := by rw [hbase]; exact hb1.size
    have hb12 : Below w.heap.size w w2 := hb1.trans (hb2.mono hwb)
    have hbs := hb2.size
    rw [← hbase] at hbs
    clear hr
    dsimp only
    obtain ⟨w3, hw3⟩ : ∃ w3, w3 = w2.alloc (.cells #[.int .i64 room, .bool false, .slice none 0 0, .slice none 0 0, .slice none 0 0] 45) := ⟨_, rfl⟩
    have hb3 : Below w2.heap.size w2 w3 := by rw [hw3]; exact belowAlloc _ _
    have hR := Rf.empty room hbs
    obtain ⟨mb, hmb⟩ : ∃ mb, mb = w2.heap.size := ⟨_, rfl⟩
    rw [← hw3, ← hmb] at hR
    have hD3 := hD.below hb3
    have hbs3 : base ≤ w3.heap.size := Nat.le_trans hbs hb3.size
    have hb13 : Below w.heap.size w w3 := hb12.trans (hb3.mono hb12.size)
    have hx3 : SlA base 5 (StP base) w3 ao cap xs := hx.imp hb13 hwb (fun cs x _ h => h.imp hb13 hwb)
    replace hw3 := Lib.hid hw3
    replace hmb := Lib.hid hmb
    replace hbase := Lib.hid hbase
    clear hx hD hb3 hb12 hb2 hb1 hbs
    go_upto_region 9 with fail
    rw [← hw3.out, ← hmb.out]
    clear hw3 hmb
    go_wp2_with fail
    go_loopw [8] (fun x8 wr => ∃ (i : Nat) (x : DX) (r : RX) (M : DM), i ≤ n ∧ i ≤ 200 ∧ x8 = .int .i64 i ∧ Dsk wr base b x M ∧ Rf wr base mb r M ∧ OkM i M ∧ Below base w3 wr) (fun x8 _ => n - (intOf x8).toNat)
    case atStart => exact ⟨0, x, _, _, Nat.zero_le _, Nat.zero_le _, rfl, hD3, hR, hok0, Below.refl _ _⟩
    case round =>
      clear hD3 hR hok0
      obtain ⟨i, x, r, M, hin, hi2, rfl, hD, hR, hok, hbr⟩ := hrel
      have hbW : Below w.heap.size w wr := hb13.trans (hbr.mono hwb)
      by_cases hlt : i < n ∧ i < 200
      · obtain ⟨hlt1, hlt2⟩ := hlt
        have hil : i < xs.length := by rw [← hn.out]; exact hlt1
        have hxr : SlA base 5 (StP base) wr ao cap xs := hx3.imp hbr (Nat.le_refl _) (fun cs x _ h => h.imp hbr (Nat.le_refl _))
        obtain ⟨sb, so, rfl, hsb, _⟩ := hxr.addr (by omega)
        obtain ⟨da, dc, pa, pc, e0, e1, e2, e3, e4, hs, hd, hpk, hdz⟩ := SlA.stepAt hxr hil
        obtain ⟨s, hse⟩ : ∃ s, s = xs[i] := ⟨_, rfl⟩
        rw [← hse] at e0 e1 e2 e3 e4 hs hd hpk hdz
        have hbw : base ≤ wr.heap.size := Nat.le_trans hbs3 hbr.size
        have hst := step_any s da dc pa pc wr hs hD hR hok hok (by omega) hbw hd hdz hpk
        obtain ⟨dl, hdl⟩ : ∃ dl, dl = s.data.length := ⟨_, rfl⟩
        obtain ⟨pl, hpl⟩ : ∃ pl, pl = s.picks.length := ⟨_, rfl⟩
        rw [← hdl] at e3 hst
        rw [← hpl] at e4 hst
        have d3 : decide ((i : Int) < (n : Int)) = true := by simp; omega
        have d4 : decide ((i : Int) < 200) = true := by simp; omega
        replace hst := Lib.hid hst
        replace hdl := Lib.hid hdl
        replace hpl := Lib.hid hpl
        replace hse := Lib.hid hse
        have hk1 : Hid (∀ w', Below base wr w' → w'.cell? ⟨sb, so + i * 5 + 1, none⟩ = some (.string s.name)) := Lib.hid (fun w' hb' => (hb'.cell (p := ⟨sb, so + i * 5 + 1, none⟩) hsb).trans e1)
        clear hxr hx3 hd hpk hdz
        go_wp2_with fail
        refine hst.out.mono ?_
        rintro e w5 ⟨⟨ok, rfl, hok1⟩, x', r', hD5, hR5, hc5, hn5, hn6⟩
        obtain rfl : ok = true := hok1 (by trivial)
        have hb5 : Below base wr w5 := hc5.below hbw (fun k hk e => by
          rcases e with e | e
          · have := hD.base_le k e; omega
          · have := hR.base_le k e; omega)
        have e15 := hk1.out w5 hb5
        have hok5 := hok.step s
        have hal := alike_any s.name w5 hs hD5 hR5 hok5 (by omega)
        replace hal := Lib.hid hal
        clear hst hc5 hn5 hn6 hD hR hok e0 e1 e2 e3 e4 hk1
        dsimp only
        go_wp2_with fail
        refine hal.out.mono ?_
        rintro e w6 ⟨rfl, hb6⟩
        have hD6 := hD5.below hb6
        have hR6 := hR5.below hb6
        have hb36 : Below base w3 w6 := (hbr.trans hb5).trans (hb6.mono (Nat.le_trans hbw hb5.size))
        replace hD6 := Lib.hid hD6
        replace hR6 := Lib.hid hR6
        replace hok5 := Lib.hid hok5
        clear hal hD5 hR5 hb6 e15
        dsimp only
        go_wp2_with fail
        go_roundw
        case rel => exact ⟨i + 1, x', r', _, by omega, by omega, by go_num, hD6.out, hR6.out, hok5.out, hb36⟩
        case measure => simp [intOf]; omega
      · clear hD hR hok hx3
        by_cases h1 : i < n
        · have d3 : decide ((i : Int) < (n : Int)) = true := by simp; omega
          have d4 : decide ((i : Int) < 200) = false := by simp; omega
          go_wp2_with fail
          go_ret
          exact ⟨rfl, hbW⟩
        · have d3 : decide ((i : Int) < (n : Int)) = false := by simp; omega
          go_wp2_with fail
          go_ret
          exact ⟨rfl, hbW⟩
theorem scripts_row {w : World} (room : Int) (_ : (Lit.int .i64 room).wf = true) (a1 : Option Addr) (len1 cap1 : Nat) (x1 : List SM) (h1 : RSl w.heap.size 5 (StP w.heap.size) w (Value.cells (.slice a1 len1 cap1)).toList x1) (_ : cap1 * 80 ≤ reachBytes) :
    Calls Try.prog 6 #[.int .i64 room, .slice a1 len1 cap1] w fun e w' => e = .returned (.bool true) ∧ Below w.heap.size w w' := by
  obtain ⟨b1, c1, e1, s1⟩ := h1
  obtain ⟨rfl, rfl, rfl⟩ : a1 = b1 ∧ len1 = x1.length ∧ cap1 = c1 := by simpa [Value.cells] using e1
  exact scripts_any room a1 cap1 x1 w s1
end Go.Proofs.Ytjhbeahkojippaa
