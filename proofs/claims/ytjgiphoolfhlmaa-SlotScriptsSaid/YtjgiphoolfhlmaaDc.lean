/- Disk: the disk as it lies; what only reads. -/
import Derived.Test.YtjgiphoolfhlmaaDb
import Derived.Test.YtjgiphoolfhlmaaL2
import Derived.Laws.IdiomStrings
namespace Go.Proofs.Ytjgiphoolfhlmaa
open Go.RowKit Go.Maps
attribute [local go_sem] Oper.semAt_some
set_option linter.unusedVariables false
set_option linter.unusedSimpArgs false

structure FV where
  ao : Option Addr
  cap : Nat
  bs : List UInt8
def FV.v (f : FV) : Value := .slice f.ao f.bs.length f.cap
def FV.none : FV := ⟨Option.none, 0, []⟩
theorem FileAt.fv {w : World} {base : Nat} {v : Value} {bs : List UInt8} (h : FileAt w base v bs) : ∃ f : FV, v = f.v ∧ f.bs = bs := by
  obtain ⟨ao, cap, rfl⟩ := h.shape
  exact ⟨⟨ao, cap, bs⟩, rfl, rfl⟩
structure CH where
  kind : Nat
  name : ByteArray
  pos : Nat
  d : FV
def encC (c : CH) : List Value := [.int .i64 c.kind, .string c.name, .int .i64 c.pos, c.d.v]
theorem encC_len (c : CH) : (encC c).length = 4 := rfl
theorem encC_one (c : CH) : ∀ u ∈ encC c, u.oneCell' = true := by
  intro u hu
  simp only [encC, FV.v, List.mem_cons, List.not_mem_nil, or_false] at hu
  rcases hu with rfl | rfl | rfl | rfl <;> rfl
def CH.abs (c : CH) : CM := ⟨c.kind, c.name, c.pos, c.d.bs⟩
structure DX where
  mn : Nat
  md : Nat
  cv : Value
  now : List (ByteArray × FV)
  safe : List (ByteArray × FV)
  chs : List CH
abbrev entF (l : List (ByteArray × FV)) : List (ByteArray × Value) := mapL FV.v l
abbrev absF (l : List (ByteArray × FV)) : Files := mapL FV.bs l

theorem keyN : KeyL Try.prog 9 Value.string klT wfT := keyT Try.underlying9

/-- What of a disk may turn. -/
def DS (x : DX) (b : Nat) (k : Nat) : Prop := k = b ∨ k = x.mn ∨ k = x.md ∨ x.cv.ownBlock = some k
/-- The program's disk as it lies: it reads as M. -/
structure Dsk (w : World) (base b : Nat) (x : DX) (M : DM) : Prop where
  blk : Blk w b #[.int .i64 M.room, .bool M.fails, .map (some x.mn), .map (some x.md), x.cv] 55
  mapn : MapL Try.prog 9 klT wfT w x.mn (entF x.now)
  maps : MapL Try.prog 9 klT wfT w x.md (entF x.safe)
  row : OwnL encC w base 73 4 x.cv x.chs
  filn : ∀ p ∈ x.now, FileAt w base p.2.v p.2.bs
  fils : ∀ p ∈ x.safe, FileAt w base p.2.v p.2.bs
  filc : ∀ c ∈ x.chs, FileAt w base c.d.v c.d.bs
  permn : (absF x.now).Perm M.now
  perms : (absF x.safe).Perm M.safe
  chq : x.chs.map CH.abs = M.chs
  ne : x.mn ≠ x.md
  bb : base ≤ b
  bn : base ≤ x.mn
  bm : base ≤ x.md
namespace Dsk
variable {w w' : World} {base b : Nat} {x : DX} {M : DM} {S : Nat → Prop}
theorem noU8 (h : Dsk w base b x M) : ∀ k, DS x b k → ∀ cs, ¬ Blk w k cs 5 := by
  rintro k (rfl | rfl | rfl | hk) cs hc
  · have h2 := h.blk
    unfold Blk at h2 hc
    rw [h2] at hc
    simp at hc
  · exact h.mapn.ne_blk hc rfl
  · exact h.maps.ne_blk hc rfl
  · exact h.row.ne_blk hc (by decide) hk
theorem base_le (h : Dsk w base b x M) : ∀ k, DS x b k → base ≤ k := by
  rintro k (rfl | rfl | rfl | hk)
  · exact h.bb
  · exact h.bn
  · exact h.bm
  · exact (h.row.lt k hk).1
/-- It stays where others turn. -/
theorem keep (h : Dsk w base b x M) (hc : Chg S w w') (hS : ∀ k, S k → ¬ DS x b k) (hU : ∀ k, S k → ∀ cs, ¬ Blk w k cs 5) : Dsk w' base b x M :=
  ⟨h.blk.chg hc (fun s => hS _ s (.inl rfl)), h.mapn.chg hc (fun s => hS _ s (.inr (.inl rfl))), h.maps.chg hc (fun s => hS _ s (.inr (.inr (.inl rfl)))), h.row.chg hc (fun g e s => hS g s (.inr (.inr (.inr e)))),
    fun p hp => (h.filn p hp).chg hc hU, fun p hp => (h.fils p hp).chg hc hU, fun c hcm => (h.filc c hcm).chg hc hU, h.permn, h.perms, h.chq, h.ne, h.bb, h.bn, h.bm⟩
theorem lt (h : Dsk w base b x M) : ∀ k, DS x b k → k < w.heap.size := by
  rintro k (rfl | rfl | rfl | hk)
  · exact h.blk.lt
  · exact h.mapn.lt
  · exact h.maps.lt
  · exact (h.row.lt k hk).2
theorem below (h : Dsk w base b x M) (hb : Below w.heap.size w w') : Dsk w' base b x M :=
  h.keep (Chg.of_below hb) (fun k hk s => by have := h.lt k s; omega) (fun k hk cs hc => by have := hc.lt; omega)
theorem c0 (h : Dsk w base b x M) : w.cell? ⟨b, 0, none⟩ = some (.int .i64 M.room) := h.blk.cellAt rfl
theorem c1 (h : Dsk w base b x M) : w.cell? ⟨b, 1, none⟩ = some (.bool M.fails) := h.blk.cellAt rfl
theorem c2 (h : Dsk w base b x M) : w.cell? ⟨b, 2, none⟩ = some (.map (some x.mn)) := h.blk.cellAt rfl
theorem c3 (h : Dsk w base b x M) : w.cell? ⟨b, 3, none⟩ = some (.map (some x.md)) := h.blk.cellAt rfl
theorem c4 (h : Dsk w base b x M) : w.cell? ⟨b, 4, none⟩ = some x.cv := h.blk.cellAt rfl
end Dsk
/-- A file's value, or nil. -/
def fileOf (l : List (ByteArray × FV)) (s : ByteArray) : FV := (getL l s).getD FV.none
theorem getE_getL (l : List (ByteArray × FV)) (s : ByteArray) : getE (entF l) s = (getL l s).map FV.v := getL_map FV.v l s
theorem fileOf_v (l : List (ByteArray × FV)) (s : ByteArray) : (getE (entF l) s).getD (.slice none 0 0) = (fileOf l s).v := by
  rw [getE_getL]
  unfold fileOf
  cases getL l s <;> rfl
theorem fileOf_at {w : World} {base : Nat} {l : List (ByteArray × FV)} (h : ∀ p ∈ l, FileAt w base p.2.v p.2.bs) (s : ByteArray) : FileAt w base (fileOf l s).v (fileOf l s).bs := by
  unfold fileOf
  cases hg : getL l s with
  | none => exact .inl ⟨rfl, none, rfl⟩
  | some f => exact h _ (getL_mem hg)
theorem absF_nodup {l : List (ByteArray × FV)} {L : Files} (hp : (absF l).Perm L) (hs : Srt L) : ((absF l).map Prod.fst).Nodup := (hp.map Prod.fst).nodup_iff.2 hs.nodup
theorem get_abs {l : List (ByteArray × FV)} {L : Files} (hp : (absF l).Perm L) (hs : Srt L) (s : ByteArray) : getL L s = (getL l s).map FV.bs := by
  rw [getL_perm (absF_nodup hp hs) hp, getL_map]
theorem fileOf_bs {l : List (ByteArray × FV)} {L : Files} (hp : (absF l).Perm L) (hs : Srt L) (s : ByteArray) : (fileOf l s).bs = bytesOf L s := by
  unfold fileOf bytesOf
  rw [get_abs hp hs]
  cases getL l s <;> rfl

theorem str_bytesU (s : ByteArray) (w : World) (hs : s.size ≤ maxLen) : ∃ cap w', (convert 9 44 (.string s)).run Try.prog w = .ok (.slice (some ⟨w.heap.size, 0, none⟩) s.size cap) w' ∧ Below w.heap.size w w' ∧ SlA w'.heap.size 1 EU w' (some ⟨w.heap.size, 0, none⟩) cap s.toList := by
  have hsz : s.toList.length = s.size := by rw [ByteArray.toList_eq]; rfl
  refine ⟨_, _, run_bytes_of_string w _ _ _ s Try.underlying9 Try.underlying44 Try.underlying5, Below.alloc (Below.drew (Below.refl _ _)) (Nat.le_refl _) _, ?_⟩
  have hg := grownCap_ge w s.size 0 5
  have hl := grownCap_le_maxLen w s.size 0 5 hs
  refine ⟨by rw [hsz]; exact hg, hl, by simp, fun _ => ⟨_, 0, rfl, by simp [World.size_alloc], fun i hi => ⟨[.int .u8 (s.toList[i]).toNat], rfl, fun j hj => ?_, rfl⟩⟩⟩
  obtain rfl : j = 0 := by omega
  have hi' : i < s.size := by rw [hsz] at hi; exact hi
  rw [Nat.mul_one, Nat.add_zero, Nat.zero_add]
  have : (w.drew.alloc (.cells (bytesRow s (grownCap w s.size 0 5)) 5 ((bytesRow s (grownCap w s.size 0 5)).size, (bytesRow s (grownCap w s.size 0 5)).size + 1))).heap[w.heap.size]? = some (.cells (bytesRow s (grownCap w s.size 0 5)) 5 ((bytesRow s (grownCap w s.size 0 5)).size, (bytesRow s (grownCap w s.size 0 5)).size + 1)) := by
    show (w.heap.push _)[w.heap.size]? = _
    simp
  simp only [World.cell?, this]
  have h2 : i < s.data.size := hi'
  unfold bytesRow
  rw [Array.getElem?_append_left (by simpa using h2)]
  simp only [Array.getElem?_map, ByteArray.toList_eq]
  simp
  exact ⟨_, Array.getElem?_eq_getElem h2, rfl⟩

set_option maxRecDepth 100000 in
set_option maxHeartbeats 1000000 in
theorem right_any (s : ByteArray) (w : World) (hs : s.size ≤ maxLen) : Calls Try.prog 59 #[.string s] w fun e w' => e = .returned (.bool (rightN s)) ∧ Below w.heap.size w w' := by
  have hsz : s.toList.length = s.size := by rw [ByteArray.toList_eq]; rfl
  obtain ⟨res, hres⟩ : ∃ res, res = rightN s := ⟨_, rfl⟩
  rw [← hres]
  by_cases hlen : s.size < 1 ∨ 32 < s.size
  · have hr : res = false := by
      rw [hres]; unfold rightN
      simp
      omega
    subst hr
    clear hres
    rcases hlen with h1 | h1
    · have d1 : decide ((s.size : Int) < 1) = true := by simp; omega
      go_enter Try.func59, Try.ntmps59
      go_wp2_with fail
      go_ret
      exact ⟨rfl, Below.refl _ _⟩
    · have d1 : decide ((s.size : Int) < 1) = false := by simp; omega
      have d2 : decide ((32 : Int) < (s.size : Int)) = true := by simp; omega
      go_enter Try.func59, Try.ntmps59
      go_wp2_with fail
      go_ret
      exact ⟨rfl, Below.refl _ _⟩
  · obtain ⟨cap2, w2, hcv, hb12, hby⟩ := str_bytesU s w hs
    have d1 : decide ((s.size : Int) < 1) = false := by simp; omega
    have d3 : decide ((32 : Int) < (s.size : Int)) = false := by simp; omega
    have hrq : res = s.toList.all okC := by
      rw [hres]; unfold rightN
      have h1 : decide (1 ≤ s.size) = true := by simp; omega
      have h2 : decide (s.size ≤ 32) = true := by simp; omega
      rw [h1, h2]; simp
    have hn32 : s.size ≤ 32 := by omega
    replace hsz := Lib.hid hsz
    replace hrq := Lib.hid hrq
    clear hres hlen
    go_enter Try.func59, Try.ntmps59
    go_wp2_with fail
    go_loopw [16] (fun x16 wr => ∃ i : Nat, i ≤ s.size ∧ x16 = .int .i64 i ∧ wr = w2 ∧ ∀ j (h : j < s.toList.length), j < i → okC s.toList[j] = true) (fun x16 _ => s.size - (intOf x16).toNat)
    case atStart => exact ⟨0, Nat.zero_le _, rfl, rfl, fun _ _ h => absurd h (Nat.not_lt_zero _)⟩
    case round =>
      obtain ⟨i, hi, rfl, rfl, hall⟩ := hrel
      replace hall := Lib.hid hall
      by_cases hlt : i < s.size
      · have hil : i < s.toList.length := by rw [hsz.out]; exact hlt
        obtain ⟨c, hc⟩ : ∃ c, s.toList[i] = c := ⟨_, rfl⟩
        have cc : wr.cell? ⟨w.heap.size, i, none⟩ = some (.int .u8 c.toNat) := by
          obtain ⟨cs, _, h6, h7⟩ := hby.get i hil
          have h8 := h6 0 (by omega)
          rw [Nat.mul_one, Nat.add_zero, h7, hc, Nat.zero_add] at h8
          exact h8
        have hbad : okC c = false → res = false := fun h => by
          rw [hrq.out]
          cases hq : s.toList.all okC with
          | false => rfl
          | true => have := List.all_eq_true.1 hq _ (List.getElem_mem hil); rw [hc, h] at this; cases this
        have hnext : okC c = true → ∀ j (h : j < s.toList.length), j < i + 1 → okC s.toList[j] = true := fun h j hj hji => by
          rcases Nat.lt_or_ge j i with h2 | h2
          · exact hall.out j hj h2
          · obtain rfl : j = i := by omega
            rw [hc]; exact h
        replace hc := Lib.hid hc
        replace hbad := Lib.hid hbad
        replace hnext := Lib.hid hnext
        have hok : okC c = ((decide (97 ≤ c.toNat) && decide (c.toNat ≤ 122)) || (decide (48 ≤ c.toNat) && decide (c.toNat ≤ 57)) || c.toNat == 45) := rfl
        replace hok := Lib.hid hok
        generalize c.toNat = m at cc hok
        go_wp2_with fail
        all_goals (first
          | (go_ret
             refine ⟨?_, hb12⟩
             rw [hbad.out (by rw [hok.out]; simp at *; omega)]
             rfl)
          | (refine ⟨⟨i + 1, by omega, by simp, trivial, hnext.out ?_⟩, by simp [intOf]; omega⟩
             rw [hok.out]
             simp at *
             omega))
      · have hres : res = true := by
          rw [hrq.out]
          refine List.all_eq_true.2 fun c hc => ?_
          obtain ⟨j, hj, rfl⟩ := List.getElem_of_mem hc
          exact hall.out j hj (by rw [hsz.out] at hj; omega)
        have d9 : decide ((i : Int) < (s.size : Int)) = false := by simp; omega
        subst hres
        go_wp2_with fail
        go_ret
        exact ⟨rfl, hb12⟩
end Go.Proofs.Ytjgiphoolfhlmaa
