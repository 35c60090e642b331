/- Wire: what is encoded is decoded, what is decoded is encoded to the same bytes: plain Lean. -/
import Derived.Test.YtjgiphoolfhlmaaWx
namespace Go.Proofs.Ytjgiphoolfhlmaa
open Go.RowKit
set_option linter.unusedVariables false

theorem rdN_digs : ∀ (f i acc m : Nat) (r : List Nat), i + f = 10 → 1 ≤ f → acc < 128 ^ i → (m = 0 → i = 0) → m * 128 ^ i < 18446744073709551616 → rdN i acc (digsF f m ++ r) = (0, acc + m * 128 ^ i, i + (digsF f m).length)
  | 0, i, acc, m, r, _, h, _, _, _ => absurd h (by omega)
  | f + 1, i, acc, m, r, hif, _, ha, hm, hb => by
    have hp : 128 ^ (i + 1) = 128 * 128 ^ i := by rw [Nat.pow_succ, Nat.mul_comm]
    have hpos : 0 < 128 ^ i := Nat.pow_pos (by decide)
    rw [digsF]
    by_cases h : 128 ≤ m
    · rw [if_pos h, List.cons_append, rdN]
      have hi8 : i ≤ 8 := by
        rcases Nat.lt_or_ge 8 i with h9 | h9
        · have h2 : 128 ^ 9 ≤ 128 ^ i := Nat.pow_le_pow_right (by decide) (by omega)
          have h3 : 128 * 128 ^ 9 ≤ m * 128 ^ i := Nat.mul_le_mul h h2
          omega
        · exact h9
      rw [if_neg (by omega), if_neg (by omega)]
      have hc : (m % 128 + 128) % 128 = m % 128 := by omega
      have hdm : m = m % 128 + 128 * (m / 128) := by omega
      have hmul : m / 128 * 128 ^ (i + 1) + m % 128 * 128 ^ i = m * 128 ^ i := by
        rw [hp]
        conv => rhs; rw [hdm, Nat.add_mul]
        rw [Nat.mul_comm 128 (m / 128), Nat.mul_assoc]
        omega
      have ha2 : acc + m % 128 * 128 ^ i < 128 ^ (i + 1) := by
        have : m % 128 * 128 ^ i ≤ 127 * 128 ^ i := Nat.mul_le_mul_right _ (by omega)
        omega
      rw [hc, rdN_digs f (i + 1) _ (m / 128) r (by omega) (by omega) ha2 (by omega) (by omega)]
      simp only [List.length_cons, Prod.mk.injEq, true_and]
      omega
    · rw [if_neg h, List.cons_append, List.nil_append, rdN]
      have h9 : ¬ ((i = 9 ∧ 1 < m) ∨ (m = 0 ∧ 0 < i)) := by
        rintro (⟨rfl, h1⟩ | ⟨h1, h2⟩)
        · have : 2 * 128 ^ 9 ≤ m * 128 ^ 9 := Nat.mul_le_mul_right _ h1
          omega
        · have := hm h1; omega
      rw [if_neg h9, if_pos (by omega), Nat.mod_eq_of_lt (by omega)]
      simp

theorem rdN_inv : ∀ (bs : List Nat) (i acc v k : Nat), (∀ x ∈ bs, x < 256) → acc < 128 ^ i → i ≤ 9 → rdN i acc bs = (0, v, k) →
    ∃ m, v = acc + m * 128 ^ i ∧ (0 < i → 0 < m) ∧ i ≤ k ∧ bs = digsF (10 - i) m ++ bs.drop (k - i) ∧ k - i = (digsF (10 - i) m).length
  | [], i, acc, v, k, _, _, _, h => by rw [rdN] at h; simp at h
  | c :: r, i, acc, v, k, hb, ha, hi, h => by
    rw [rdN] at h
    by_cases h1 : (i = 9 ∧ 1 < c) ∨ (c = 0 ∧ 0 < i)
    · rw [if_pos h1] at h; simp at h
    · rw [if_neg h1] at h
      have hc := hb c (by simp)
      have he : 10 - i = (9 - i) + 1 := by omega
      by_cases h2 : c < 128
      · rw [if_pos h2] at h
        simp only [Prod.mk.injEq, true_and] at h
        obtain ⟨rfl, rfl⟩ := h
        refine ⟨c, by rw [Nat.mod_eq_of_lt h2], by omega, by omega, ?_, ?_⟩
        · rw [he, digsF, if_neg (by omega), show i + 1 - i = 1 by omega]; rfl
        · rw [he, digsF, if_neg (by omega)]; simp
      · rw [if_neg h2] at h
        have hd := digit_or (c := c) rfl ha hi (by omega) hc
        obtain ⟨m, hv, hm, hk, hbs, hkl⟩ := rdN_inv r (i + 1) _ v k (fun x hx => hb x (by simp [hx])) (hd.2.2 (by omega)) (by omega) h
        have hm := hm (by omega)
        have hp : 128 ^ (i + 1) = 128 * 128 ^ i := by rw [Nat.pow_succ, Nat.mul_comm]
        have e1 : (c - 128 + 128 * m) % 128 + 128 = c := by omega
        have e2 : (c - 128 + 128 * m) / 128 = m := by omega
        have e3 : c % 128 = c - 128 := by omega
        have e4 : 10 - (i + 1) = 9 - i := by omega
        rw [e4] at hbs hkl
        refine ⟨c - 128 + 128 * m, ?_, by omega, by omega, ?_, ?_⟩
        · rw [hv, hp, e3, Nat.add_mul]
          have : m * (128 * 128 ^ i) = 128 * m * 128 ^ i := by rw [← Nat.mul_assoc, Nat.mul_comm m 128]
          omega
        · rw [he, digsF, if_pos (by omega), e1, e2, show k - i = (k - (i + 1)) + 1 by omega, List.drop_succ_cons, List.cons_append, ← hbs]
        · rw [he, digsF, if_pos (by omega), e1, e2, List.length_cons, ← hkl]
          omega

theorem digs_read {m : Nat} (r : List Nat) (hm : m < 18446744073709551616) : rdN 0 0 (digs m ++ r) = (0, m, (digs m).length) := by
  have := rdN_digs 10 0 0 m r (by omega) (by omega) (by decide) (fun _ => rfl) (by simpa using hm)
  unfold digs
  rw [this]
  simp
theorem read_digs {bs : List Nat} {v k : Nat} (hb : ∀ x ∈ bs, x < 256) (h : rdN 0 0 bs = (0, v, k)) : bs = digs v ++ bs.drop k := by
  obtain ⟨m, hv, _, _, hbs, _⟩ := rdN_inv bs 0 0 v k hb (by decide) (by decide) h
  have : v = m := by rw [hv]; simp
  subst this
  exact hbs

theorem unz_zig {n : Int} (h1 : -9223372036854775808 ≤ n) (h2 : n ≤ 9223372036854775807) : unz (zig n) = n := by
  unfold unz zig
  split <;> split at * <;> omega
theorem zig_unz (v : Nat) : zig (unz v) = v := by
  unfold unz zig
  split <;> split at * <;> omega
theorem txt_toB {l : List Nat} (h : ∀ x ∈ l, x < 256) : txtB (toB l) = l := by
  unfold txtB toB
  simp only [List.map_map]
  conv => rhs; rw [← List.map_id l]
  apply List.map_congr_left
  intro x hx
  have := h x hx
  simp [UInt8.toNat_ofNat']
  omega
theorem toB_txt (s : ByteArray) : toB (txtB s) = s := by
  unfold txtB toB
  cases s with
  | mk d =>
    have : UInt8.ofNat ∘ UInt8.toNat = id := by funext x; simp
    simp [List.map_map, this]

mutual
def wfI : Itm → Prop
  | .mk _ n s l => -9223372036854775808 ≤ n ∧ n ≤ 9223372036854775807 ∧ s.size ≤ 9223372036854775807 ∧ l.length ≤ 9223372036854775807 ∧ wfL l
def wfL : List Itm → Prop
  | [] => True
  | x :: r => wfI x ∧ wfL r
end
theorem wfL_of : ∀ {l : List Itm}, (∀ x ∈ l, wfI x) → wfL l
  | [], _ => by rw [wfL]; trivial
  | x :: r, h => by rw [wfL]; exact ⟨h x (by simp), wfL_of (fun y hy => h y (by simp [hy]))⟩
theorem wfI_of {B : Nat} {w : World} : ∀ {d : Nat} {cs : List Value} {x : Itm}, RIt d B w cs x → wfI x
  | 0, _, _, h => h.elim
  | d + 1, cs, .mk k n s l, ⟨ao, cap, h1, h2, h3, h4, h5, h6⟩ => by
    rw [wfI]
    have hn := wf_i64 h3
    refine ⟨hn.1, hn.2, by omega, by omega, wfL_of fun x hx => ?_⟩
    obtain ⟨i, hi, rfl⟩ := List.mem_iff_getElem.1 hx
    obtain ⟨b, off, rfl, hb, h7⟩ := h6.addr (by omega)
    obtain ⟨cs', _, _, h8⟩ := h7 i hi
    exact wfI_of h8
theorem RIts.wf {d B : Nat} {w : World} {ao : Option Addr} {cap : Nat} {l : List Itm} (h : RIts d B w ao cap l) : wfL l := by
  refine wfL_of fun x hx => ?_
  obtain ⟨i, hi, rfl⟩ := List.mem_iff_getElem.1 hx
  obtain ⟨b, off, rfl, hb, h7⟩ := h.1.addr (by omega)
  obtain ⟨cs', _, _, h8⟩ := h7 i hi
  exact wfI_of h8

theorem drop_append_len {a b : List Nat} : (a ++ b).drop a.length = b := by simp
theorem chkI_form {k n : Int} {s : ByteArray} {l : List Itm} {d c : Nat} (h : (chkI (.mk k n s l) d c).2 = 0) : formI (.mk k n s l) = true ∧ ¬ (4096 < c + 1 ∨ 8 < d) ∧ chkI (.mk k n s l) d c = chkL l (d + 1) (c + 1) := by
  rw [chkI] at h ⊢
  by_cases hf : formI (.mk k n s l) = true
  · simp only [hf, Bool.not_true, Bool.false_eq_true, if_false] at h ⊢
    by_cases hc : 4096 < c + 1 ∨ 8 < d
    · rw [if_pos hc] at h; simp at h
    · exact ⟨trivial, hc, by rw [if_neg hc]⟩
  · have hf : formI (.mk k n s l) = false := by simpa using hf
    simp [hf] at h

mutual
theorem rdI_enc : ∀ (x : Itm) (f d c : Nat) (r : List Nat), f + d = 9 → wfI x → (chkI x d c).2 = 0 → rdI f c (encI x ++ r) = (0, x, r, (chkI x d c).1)
  | .mk k n s l, f, d, c, r, hf, hw, h => by
    obtain ⟨h1, h2, h3⟩ := chkI_form h
    rw [h3] at h ⊢
    rw [wfI] at hw
    obtain ⟨f, rfl⟩ : ∃ f', f = f' + 1 := ⟨f - 1, by omega⟩
    rw [encI]
    rcases form_int h1 with ⟨rfl, hs, rfl⟩ | ⟨rfl, rfl, rfl⟩ | ⟨rfl, rfl, hs⟩
    · rw [if_pos rfl, List.cons_append, rdI, if_neg (by omega), if_neg (by simp), digs_read r (zig_lt hw.1 hw.2.1), rdBody]
      rw [if_neg (by simp), if_pos (by simp)]
      dsimp only
      rw [drop_append_len, unz_zig hw.1 hw.2.1, chkL, empty_bytes hs]
    · rw [if_neg (by decide), if_pos rfl, List.cons_append, rdI, if_neg (by omega), if_neg (by simp), List.append_assoc, digs_read _ (by omega), rdBody]
      rw [if_neg (by simp), if_neg (by simp), if_neg (by dsimp only; omega), if_pos (by simp)]
      dsimp only
      rw [drop_append_len, if_neg (by rw [List.length_append, txtB_len]; omega), chkL]
      have e1 : (txtB s ++ r).take s.size = txtB s := by rw [← txtB_len s]; simp
      have e2 : (txtB s ++ r).drop s.size = r := by rw [← txtB_len s]; simp
      rw [e1, e2, toB_txt]
    · rw [if_neg (by decide), if_neg (by decide), List.cons_append, rdI, if_neg (by omega), if_neg (by simp), List.append_assoc, digs_read _ (by omega), rdBody]
      rw [if_neg (by simp), if_neg (by simp), if_neg (by dsimp only; omega), if_neg (by simp)]
      dsimp only
      rw [drop_append_len, rdL_enc l f (d + 1) (c + 1) r [] (by omega) hw.2.2.2.2 h, List.nil_append, empty_bytes hs]
theorem rdL_enc : ∀ (l : List Itm) (f d c : Nat) (r : List Nat) (acc : List Itm), f + d = 9 → wfL l → (chkL l d c).2 = 0 → rdLp (rdI f) l.length acc (encL l ++ r) c = (0, .mk 2 0 ⟨#[]⟩ (acc ++ l), r, (chkL l d c).1)
  | [], f, d, c, r, acc, _, _, _ => by rw [encL, List.length_nil, rdLp, chkL]; simp
  | x :: t, f, d, c, r, acc, hf, hw, h => by
    rw [wfL] at hw
    rw [chkL] at h ⊢
    by_cases he : (chkI x d c).2 = 0
    · rw [if_pos he] at h ⊢
      rw [encL, List.length_cons, rdLp, List.append_assoc, rdI_enc x f d c (encL t ++ r) hf hw.1 he]
      dsimp only
      rw [if_neg (by simp), rdL_enc t f d _ r (acc ++ [x]) hf hw.2 h]
      simp
    · rw [if_neg he] at h; exact absurd h he
end

theorem rdLp_inv {f d : Nat} (hg : ∀ (c : Nat) (bs : List Nat) (x : Itm) (rest : List Nat) (c' : Nat), (∀ x ∈ bs, x < 256) → rdI f c bs = (0, x, rest, c') → bs = encI x ++ rest ∧ chkI x d c = (c', 0)) :
    ∀ (n : Nat) (acc : List Itm) (bs : List Nat) (c : Nat) (y : Itm) (rest : List Nat) (c' : Nat), (∀ x ∈ bs, x < 256) → rdLp (rdI f) n acc bs c = (0, y, rest, c') → ∃ l : List Itm, l.length = n ∧ y = .mk 2 0 ⟨#[]⟩ (acc ++ l) ∧ bs = encL l ++ rest ∧ chkL l d c = (c', 0)
  | 0, acc, bs, c, y, rest, c', hb, h => by
    rw [rdLp] at h
    simp only [Prod.mk.injEq, true_and] at h
    obtain ⟨rfl, rfl, rfl⟩ := h
    exact ⟨[], rfl, by simp, by rw [encL]; rfl, by rw [chkL]⟩
  | n + 1, acc, bs, c, y, rest, c', hb, h => by
    rw [rdLp] at h
    obtain ⟨⟨xe, xi, xr, xc⟩, hx⟩ : ∃ x, x = rdI f c bs := ⟨_, rfl⟩
    rw [← hx] at h
    dsimp only at h
    by_cases he : xe = 0
    · subst he
      rw [if_neg (by simp)] at h
      obtain ⟨h1, h2⟩ := hg c bs xi xr xc hb hx.symm
      obtain ⟨l, h3, h4, h5, h6⟩ := rdLp_inv hg n (acc ++ [xi]) xr xc y rest c' (fun z hz => hb z (by rw [h1]; simp [hz])) h
      refine ⟨xi :: l, by simp [h3], by rw [h4]; simp, by rw [encL, List.append_assoc, ← h5, ← h1], ?_⟩
      rw [chkL, h2]
      simpa using h6
    · rw [if_pos he] at h
      simp only [Prod.mk.injEq] at h
      exact absurd h.1 he

theorem rdI_inv : ∀ (f d c : Nat) (bs : List Nat) (x : Itm) (rest : List Nat) (c' : Nat), f + d = 9 → (∀ x ∈ bs, x < 256) → rdI f c bs = (0, x, rest, c') → bs = encI x ++ rest ∧ chkI x d c = (c', 0)
  | 0, d, c, bs, x, rest, c', _, _, h => by rw [rdI] at h; simp at h
  | f + 1, d, c, [], x, rest, c', _, _, h => by
    rw [rdI] at h
    split at h <;> simp at h
  | f + 1, d, c, k :: r, x, rest, c', hf, hb, h => by
    rw [rdI] at h
    by_cases hc : 4096 < c + 1
    · rw [if_pos hc] at h; simp at h
    rw [if_neg hc] at h
    by_cases hk : 2 < k
    · rw [if_pos hk] at h; simp at h
    rw [if_neg hk] at h
    have hbr : ∀ x ∈ r, x < 256 := fun x hx => hb x (by simp [hx])
    obtain ⟨⟨qe, qv, qk⟩, hq⟩ : ∃ q, q = rdN 0 0 r := ⟨_, rfl⟩
    rw [← hq, rdBody] at h
    dsimp only at h
    by_cases hqe : qe = 0
    · subst hqe
      rw [if_neg (by simp)] at h
      have hd := read_digs hbr hq.symm
      have hql := (rdN_lt r 0 0 hbr (by decide) (by decide)).1
      rw [← hq] at hql
      have hnc : ¬ (4096 < c + 1 ∨ 8 < d) := by omega
      by_cases hk0 : k = 0
      · subst hk0
        rw [if_pos rfl] at h
        simp only [Prod.mk.injEq, true_and] at h
        obtain ⟨rfl, rfl, rfl⟩ := h
        refine ⟨by rw [encI, if_pos rfl, zig_unz, List.cons_append, ← hd]; rfl, ?_⟩
        rw [chkI, if_neg (by simp [formI]; rfl), if_neg hnc, chkL]
      · rw [if_neg hk0] at h
        by_cases hbig : 9223372036854775807 < qv
        · rw [if_pos hbig] at h; simp at h
        rw [if_neg hbig] at h
        by_cases hk1 : k = 1
        · subst hk1
          rw [if_pos rfl] at h
          by_cases hsh : (r.drop qk).length < qv
          · rw [if_pos hsh] at h; simp at h
          rw [if_neg hsh] at h
          simp only [Prod.mk.injEq, true_and] at h
          obtain ⟨rfl, rfl, rfl⟩ := h
          have hts : (toB ((r.drop qk).take qv)).size = qv := by rw [toB_size, List.length_take]; omega
          refine ⟨?_, ?_⟩
          · rw [encI, if_neg (by decide), if_pos rfl, hts, txt_toB (fun y hy => hbr y (List.mem_of_mem_drop (List.mem_of_mem_take hy))), List.cons_append, List.append_assoc, List.take_append_drop, ← hd]
            rfl
          · rw [chkI, if_neg (by simp [formI]), if_neg hnc, chkL]
        · rw [if_neg hk1] at h
          obtain rfl : k = 2 := by omega
          obtain ⟨l, h3, h4, h5, h6⟩ := rdLp_inv (f := f) (d := d + 1) (fun c bs x rest c' hb h => rdI_inv f (d + 1) c bs x rest c' (by omega) hb h) qv [] (r.drop qk) (c + 1) x rest c' (fun y hy => hbr y (List.mem_of_mem_drop hy)) h
          rw [List.nil_append] at h4
          subst h4
          refine ⟨?_, ?_⟩
          · rw [encI, if_neg (by decide), if_neg (by decide), h3, List.cons_append, List.append_assoc, ← h5, ← hd]
            rfl
          · rw [chkI, if_neg (by simp [formI]; rfl), if_neg hnc, h6]
    · rw [if_pos hqe] at h
      simp only [Prod.mk.injEq] at h
      exact absurd h.1 hqe

theorem decF_enc : ∀ (l : List Itm) (g c : Nat) (acc : List Itm), 4097 ≤ g + c → wfL l → (chkL l 1 c).2 = 0 → c ≤ 4096 → decF g c acc (encL l) = (0, acc ++ l)
  | [], g, c, acc, _, _, _, _ => by rw [encL]; cases g <;> simp [decF]
  | x :: t, g, c, acc, hg, hw, h, hc => by
    rw [wfL] at hw
    rw [chkL] at h
    by_cases he : (chkI x 1 c).2 = 0
    · rw [if_pos he] at h
      obtain ⟨g, rfl⟩ : ∃ g', g = g' + 1 := ⟨g - 1, by omega⟩
      have hr := rdI_enc x 8 1 c (encL t) rfl hw.1 he
      have hck := chkI_ok x 1 c he
      have hne : ∃ k s, encI x ++ encL t = k :: s := by
        obtain ⟨kk, n, s, l⟩ := x
        exact ⟨_, _, by rw [encI, List.cons_append]⟩
      obtain ⟨k, s, hks⟩ := hne
      rw [encL, hks, decF, ← hks, hr]
      dsimp only
      rw [if_neg (by simp), decF_enc t g _ (acc ++ [x]) (by
        have : 1 ≤ cntI x := by obtain ⟨kk, n, s, l⟩ := x; rw [cntI]; omega
        rw [hck.2.1]; omega) hw.2 h hck.2.2]
      simp
    · rw [if_neg he] at h; exact absurd h he
theorem decF_inv : ∀ (g c : Nat) (acc : List Itm) (bs : List Nat) (L : List Itm), 4097 ≤ g + c → c ≤ 4096 → (∀ x ∈ bs, x < 256) → decF g c acc bs = (0, L) → ∃ l, L = acc ++ l ∧ bs = encL l ∧ (chkL l 1 c).2 = 0
  | 0, c, acc, bs, L, hg, hc, _, _ => by omega
  | g + 1, c, acc, [], L, hg, hc, _, h => by
    rw [decF] at h
    simp only [Prod.mk.injEq, true_and] at h
    subst h
    exact ⟨[], by simp, by rw [encL], by rw [chkL]⟩
  | g + 1, c, acc, k :: r, L, hg, hc, hb, h => by
    rw [decF] at h
    have hcn := rdI_cnt 8 c (k :: r)
    obtain ⟨⟨xe, xi, xr, xc⟩, hx⟩ : ∃ x, x = rdI 8 c (k :: r) := ⟨_, rfl⟩
    rw [← hx] at h hcn
    dsimp only at h hcn
    by_cases he : xe = 0
    · subst he
      rw [if_neg (by simp)] at h
      have hcn := hcn rfl
      obtain ⟨h1, h2⟩ := rdI_inv 8 1 c (k :: r) xi xr xc rfl hb hx.symm
      obtain ⟨l, h3, h4, h5⟩ := decF_inv g xc (acc ++ [xi]) xr L (by omega) hcn.2 (fun y hy => hb y (by rw [h1]; simp [hy])) h
      refine ⟨xi :: l, by rw [h3]; simp, by rw [encL, ← h4]; exact h1, ?_⟩
      rw [chkL, h2]
      simpa using h5
    · rw [if_pos he] at h
      simp only [Prod.mk.injEq] at h
      exact absurd h.1 he

mutual
theorem sizI_enc : ∀ (x : Itm), okI x = true → sizI x ≤ (encI x).length
  | .mk k n s l, h => by
    rw [okI, Bool.and_eq_true] at h
    rw [sizI, encI]
    rcases form_int h.1 with ⟨rfl, hs, rfl⟩ | ⟨rfl, rfl, rfl⟩ | ⟨rfl, rfl, hs⟩
    · rw [sizL]; simp [hs]
    · rw [sizL, if_neg (by decide), if_pos rfl]; simp [txtB_len]; omega
    · have := sizL_enc l h.2
      rw [if_neg (by decide), if_neg (by decide)]; simp; omega
theorem sizL_enc : ∀ (l : List Itm), okL l = true → sizL l ≤ (encL l).length
  | [], _ => by rw [sizL]; omega
  | x :: r, h => by
    rw [okL, Bool.and_eq_true] at h
    have h1 := sizI_enc x h.1
    have h2 := sizL_enc r h.2
    rw [sizL, encL, List.length_append]; omega
end

/-- What is encoded is decoded. -/
theorem dec_enc {l : List Itm} (hw : wfL l) (h : (encV l).1 = 0) : decV (encV l).2 = (0, l) := by
  have hl := encV_len l
  obtain ⟨h1, h2⟩ := encV_ok h
  rw [h1] at hl ⊢
  dsimp only at hl ⊢
  unfold decV
  rw [if_neg (by omega)]
  have hck : (chkL l 1 0).2 = 0 := by
    unfold encV at h
    by_cases hc : (chkL l 1 0).2 = 0
    · exact hc
    · rw [if_pos hc] at h; exact h
  have := decF_enc l 4097 0 [] (by omega) hw hck (by omega)
  rw [this]
  rfl
/-- What is decoded is encoded to the same bytes. -/
theorem enc_dec {bs : List Nat} {l : List Itm} (hb : ∀ x ∈ bs, x < 256) (h : decV bs = (0, l)) : encV l = (0, bs) := by
  unfold decV at h
  by_cases hbig : 65536 < bs.length
  · rw [if_pos hbig] at h; simp at h
  rw [if_neg hbig] at h
  obtain ⟨l', h1, h2, h3⟩ := decF_inv 4097 0 [] bs l (by omega) (by omega) hb h
  rw [List.nil_append] at h1
  subst h1
  have hok := (chkL_ok l 1 0 h3).1
  have hs := sizL_enc l hok
  rw [← h2] at hs
  unfold encV
  rw [if_neg (by simpa using h3), ← h2, if_neg (by omega)]
theorem dec_err {bs : List Nat} (h : (decV bs).1 ≠ 0) : (decV bs).2 = [] := by
  unfold decV at h ⊢
  by_cases hbig : 65536 < bs.length
  · rw [if_pos hbig]
  rw [if_neg hbig] at h ⊢
  have hg : ∀ (g c : Nat) (acc : List Itm) (bs : List Nat), (decF g c acc bs).1 ≠ 0 → (decF g c acc bs).2 = [] := by
    intro g
    induction g with
    | zero => intro c acc bs h; rw [decF] at h; simp at h
    | succ g ih =>
      intro c acc bs h
      cases bs with
      | nil => rw [decF] at h; simp at h
      | cons k r =>
        rw [decF] at h ⊢
        by_cases he : (rdI 8 c (k :: r)).1 = 0
        · rw [if_neg (by simp [he])] at h ⊢; exact ih _ _ _ h
        · rw [if_pos he]
  exact hg _ _ _ _ h
end Go.Proofs.Ytjgiphoolfhlmaa
