/- Maps as lists of entries: between mapEntry and entryStore (Go leaves the look-up of `m[k] += v` unordered to mapEntry). -/
import Derived.Test.YtjmbafcpbagpdaaGreatL3
namespace Go
open Go.RowKit Go.Maps Go.ChangeMaps Go.MapKept
open Go.WideMaps (KeyLaw)
set_option linter.unusedVariables false
set_option linter.unusedSimpArgs false

section
variable {H : Type} {P : Program} {w : World} {t k e : TypeId} {R : Value → Option (DataW H × List MemPlace)} {b : Nat} {es : Array MapEntry} {clock : Nat}
theorem entry_held (K : KeyLaw P k) (ht : P.underlying t = some (.map k e)) {z : Value} (hz : ∀ u : World, (zeroValue e).run P u = .ok z u) (hb : w.heap[b]? = some (.map es clock)) (F : WideElems.Fit P k R es clock)
    {key : Value} {kl : Lit} (hkey : keyOf P k key = some kl) {v0 : Value} {g : Value} {w1 : World} (h : (Instr.mapEntry t (.map (some b)) key).run P w = .ok (.tuple #[v0, g]) w1) :
    (Instr.mapUpdate t (.map (some b)) key v0).run P w = .ok () w1 ∧ (Instr.lookup t (.map (some b)) key false).run P w = .ok v0 w := by
  obtain ⟨s1, s2, _⟩ := F.stamped
  rcases K.find w hkey es.toList F.keys with ⟨h1, h2⟩ | ⟨j, e0, h1, h2, h3⟩
  · have h0 : (Instr.mapEntry t (.map (some b)) key).run P w = .ok (.tuple #[z, goInt clock]) (setBlock w b (.map (es.push ⟨key, z, clock⟩) (clock + 1))) := by
      simp [Instr.mapEntry, run_underlying ht, MapKept.run_getObj_map hb, K.check w false hkey, h1, hz, MapKept.run_setObj_map _ hb, Result.andThen, setBlock]
    rw [h0] at h
    simp only [Result.ok.injEq, Value.tuple.injEq, Array.mk.injEq, List.cons.injEq, and_true] at h
    obtain ⟨⟨rfl, _⟩, rfl⟩ := h
    refine ⟨?_, ?_⟩
    · simp [Instr.mapUpdate, run_underlying ht, MapKept.run_getObj_map hb, K.check w false hkey, h1, MapKept.run_setObj_map _ hb, Result.andThen, setBlock]
    · simp [Instr.lookup, run_underlying ht, MapKept.run_getObj_map hb, K.check w es.isEmpty hkey, h1, hz, Result.andThen]
  · have hj : es[j]? = some e0 := by simpa using h2
    have hsame : es.modify j (fun e => { e with key := key }) = es := by
      apply Array.ext'
      rw [Array.toList_modify, modify_eq_set _ _ _ _ h2]
      have : ({ e0 with key := key } : MapEntry) = e0 := by rw [← h3]
      rw [this]
      exact WideElems.set_self _ _ _ h2
    have h0 : (Instr.mapEntry t (.map (some b)) key).run P w = .ok (.tuple #[e0.val, goInt e0.born]) (setBlock w b (.map es clock)) := by
      simp [Instr.mapEntry, run_underlying ht, MapKept.run_getObj_map hb, K.check w false hkey, h1, hj, h3, K.stays w hkey, hsame, MapKept.run_setObj_map _ hb, Result.andThen, setBlock]
    rw [h0] at h
    simp only [Result.ok.injEq, Value.tuple.injEq, Array.mk.injEq, List.cons.injEq, and_true] at h
    obtain ⟨⟨rfl, _⟩, rfl⟩ := h
    have hsame2 : es.modify j (fun e' => { e' with key := key, val := e0.val }) = es := by
      apply Array.ext'
      rw [Array.toList_modify, modify_eq_set _ _ _ _ h2]
      have : ({ e0 with key := key, val := e0.val } : MapEntry) = e0 := by rw [← h3]
      rw [this]
      exact WideElems.set_self _ _ _ h2
    refine ⟨?_, ?_⟩
    · simp [Instr.mapUpdate, run_underlying ht, MapKept.run_getObj_map hb, K.check w false hkey, h1, hj, h3, K.stays w hkey, hsame2, MapKept.run_setObj_map _ hb, Result.andThen, setBlock]
    · simp [Instr.lookup, run_underlying ht, MapKept.run_getObj_map hb, K.check w es.isEmpty hkey, h1, hj, h3, Result.andThen]
end

section
variable {κ : Type} [DecidableEq κ] {P : Program} {k t e : TypeId} {mk : κ → Value} {kl : κ → Lit} {wf : κ → Prop} {w w' : World} {b : Nat} {es : List (κ × Value)}
/-- 'm[k] += v', with what the map is between the two. -/
theorem MapL.entryV (hK : KeyL P k mk kl wf) (h : MapL P k kl wf w b es) (ht : P.underlying t = some (.map k e)) {z : Value} (hz : ∀ u : World, (zeroValue e).run P u = .ok z u) (hn : es.length < maxLen) {x : κ} (hx : wf x) :
    ∃ st w1, (Instr.mapEntry t (.map (some b)) (mk x)).run P w = .ok (.tuple #[(getE es x).getD z, goInt st]) w1 ∧ Chg (fun j => j = b) w w1 ∧ MapL P k kl wf w1 b (setE es x ((getE es x).getD z)) ∧
      ∀ val, ∃ w2, (Instr.entryStore t (.map (some b)) (goInt st) val).run P w1 = .ok () w2 ∧ MapL P k kl wf w2 b (setE es x val) ∧ Chg (fun j => j = b) w w2 := by
  obtain ⟨v0, st, w1, h1, h2, h3⟩ := h.entry hK ht hz hn hx
  obtain ⟨l, ⟨ms, clock, hb, F, hs, hD⟩, hl⟩ := h.own
  obtain ⟨h4, h5⟩ := entry_held hK.law ht hz hb F (hK.key x hx) h1
  have h6 := h.look hK ht (hz w) hx false
  rw [h5] at h6
  simp only [Bool.false_eq_true, if_false, Result.ok.injEq, and_true] at h6
  subst h6
  obtain ⟨w', h7, h8, _⟩ := h.store hK ht hn hx ((getE es x).getD z)
  rw [h4] at h7
  simp only [Result.ok.injEq, true_and] at h7
  subst h7
  exact ⟨st, w1, h1, h2, h8, h3⟩
end
end Go
