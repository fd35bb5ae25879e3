/- Plain: the document's reading of a text is the program's. -/
import Derived.Test.YtpcdncopdihcpaaDoorCostM
namespace Go.Proofs.YtpcdncopdihcpaaDoor
open Go.RowKit
namespace Flo
open Ieee

/-! decimal texts -/
theorem vl_dec (n : Nat) : vl (Lib.decDigits n) = n := by
  induction n using Nat.strongRecOn with
  | _ n ih =>
    by_cases h : n < 10
    · rw [Lib.decDigits_one h]
      show 0 * 10 + ((UInt8.ofNat (48 + n)).toNat - 48) = n
      rw [ofNat_toNat _ (by omega)]
      omega
    · rw [show Lib.decDigits n = Lib.decDigits (n / 10) ++ Lib.decDigits (n % 10) from by
        rw [Lib.decDigits, dif_neg h, Lib.decDigits_one (show n % 10 < 10 by omega)], Lib.decDigits_one (show n % 10 < 10 by omega), vl_snoc, ih _ (by omega), ofNat_toNat _ (by omega)]
      omega
theorem all_dec (n : Nat) : (Lib.decDigits n).all isDig = true := by
  rw [List.all_eq_true]
  intro c hc
  exact decide_eq_true (dec_digit n c hc)
theorem dec_short : ∀ (k n : Nat), n < 10 ^ (k + 1) → (Lib.decDigits n).length ≤ k + 1
  | 0, n, h => by rw [Lib.decDigits_one (by simpa using h)]; simp
  | k + 1, n, h => by
    by_cases h9 : n < 10
    · rw [Lib.decDigits_one h9]; simp
    · rw [show Lib.decDigits n = Lib.decDigits (n / 10) ++ Lib.decDigits (n % 10) from by
        rw [Lib.decDigits, dif_neg h9, Lib.decDigits_one (show n % 10 < 10 by omega)], Lib.decDigits_one (show n % 10 < 10 by omega), List.length_append, List.length_singleton]
      have := dec_short k (n / 10) (by rw [Nat.pow_succ] at h; omega)
      omega
theorem dgV_dec (n most : Nat) (h : (Lib.decDigits n).length ≤ most) : dgV (Lib.decDigits n) most = (n, true) := by
  unfold dgV
  rw [if_neg (by omega), if_pos (all_dec n), vl_dec]
  simp
theorem dgV_true (s : List UInt8) (most : Nat) (h : (dgV s most).2 = true) : s = Lib.decDigits (dgV s most).1 := by
  unfold dgV at h ⊢
  by_cases h1 : most < s.length
  · rw [if_pos h1] at h; cases h
  · rw [if_neg h1] at h ⊢
    by_cases h2 : s.all isDig = true
    · rw [if_pos h2] at h ⊢
      exact (beq_iff_eq.1 h).symm
    · rw [if_neg h2] at h; cases h

/-! an odd number times a power -/
theorem nrm_run : ∀ (j n m : Nat) (p : Int), j ≤ n → (∀ i, i < j → m * 2 ^ i < 4503599627370496 ∧ -1074 < p - (i : Int)) → ¬ (m * 2 ^ j < 4503599627370496 ∧ -1074 < p - (j : Int)) → nrm n m p = (m * 2 ^ j, p - (j : Int))
  | 0, n, m, p, _, _, h => by
    have h' : ¬ (m < 4503599627370496 ∧ -1074 < p) := by simpa using h
    cases n with
    | zero => simp [nrm]
    | succ n => rw [nrm, if_neg h']; simp
  | j + 1, n, m, p, hj, hi, h => by
    obtain ⟨n', rfl⟩ : ∃ n', n = n' + 1 := ⟨n - 1, by omega⟩
    have h0 : m < 4503599627370496 ∧ -1074 < p := by simpa using hi 0 (by omega)
    rw [nrm, if_pos h0, nrm_run j n' (m * 2) (p - 1) (by omega) (fun i hij => by
      have := hi (i + 1) (by omega)
      rw [Nat.pow_succ, Nat.mul_comm (2 ^ i) 2, ← Nat.mul_assoc] at this
      exact ⟨this.1, by omega⟩) (fun hh => h (by
      rw [Nat.pow_succ, Nat.mul_comm (2 ^ j) 2, ← Nat.mul_assoc]
      exact ⟨hh.1, by omega⟩))]
    rw [Nat.pow_succ, Nat.mul_comm (2 ^ j) 2, ← Nat.mul_assoc]
    congr 1
    omega
theorem nrm_form : ∀ (n m : Nat) (p : Int), ∃ j : Nat, nrm n m p = (m * 2 ^ j, p - (j : Int))
  | 0, m, p => ⟨0, by simp [nrm]⟩
  | n + 1, m, p => by
    rw [nrm]
    split
    · obtain ⟨j, hj⟩ := nrm_form n (m * 2) (p - 1)
      refine ⟨j + 1, ?_⟩
      rw [hj, Nat.pow_succ, Nat.mul_comm (2 ^ j) 2, ← Nat.mul_assoc]
      congr 1
      omega
    · exact ⟨0, by simp⟩
theorem nrm_stop : ∀ (n m : Nat) (p : Int), n ≤ 53 → 2 ^ (53 - n) ≤ m → ¬ ((nrm n m p).1 < 4503599627370496 ∧ -1074 < (nrm n m p).2)
  | 0, m, p, _, h => by
    intro hh
    rw [nrm] at hh
    simp only [Nat.sub_zero] at h
    have := hh.1
    simp only at this
    omega
  | n + 1, m, p, hn, h => by
    rw [nrm]
    split
    · refine nrm_stop n (m * 2) (p - 1) (by omega) ?_
      rw [show 53 - n = (53 - (n + 1)) + 1 from by omega, Nat.pow_succ]
      omega
    · assumption
theorem odd_uniq : ∀ (j s m o : Nat), m % 2 = 1 → o % 2 = 1 → m * 2 ^ j = o * 2 ^ s → m = o ∧ j = s
  | 0, 0, m, o, _, _, h => by simpa using h
  | 0, s + 1, m, o, h1, h2, h => by
    rw [Nat.pow_succ, ← Nat.mul_assoc] at h
    simp only [Nat.pow_zero, Nat.mul_one] at h
    omega
  | j + 1, 0, m, o, h1, h2, h => by
    rw [Nat.pow_succ, ← Nat.mul_assoc] at h
    simp only [Nat.pow_zero, Nat.mul_one] at h
    omega
  | j + 1, s + 1, m, o, h1, h2, h => by
    rw [Nat.pow_succ, Nat.pow_succ, ← Nat.mul_assoc, ← Nat.mul_assoc] at h
    obtain ⟨a, b⟩ := odd_uniq j s m o h1 h2 (by omega)
    exact ⟨a, by omega⟩
theorem ofV_back (r : Nat) (h0 : 0 < r) (h1 : r < 9218868437227405312) : ofV (odd r) (power r) = (r, true) := by
  obtain ⟨s, s1, s2, s3⟩ := strip r h0
  have o2 := (odd_eq h0).2.1
  have pr := power_range h0 h1
  have hsig : sig0 r < 9007199254740992 ∧ 0 < sig0 r := by unfold sig0; split <;> omega
  have hpow : -1074 ≤ pow0 r ∧ pow0 r ≤ 971 := by unfold pow0; split <;> omega
  have hst : ¬ (sig0 r < 4503599627370496 ∧ -1074 < pow0 r) := by unfold sig0 pow0; split <;> omega
  have hr : r = if sig0 r < 4503599627370496 then sig0 r else ((pow0 r + 1075) * 4503599627370496 + (sig0 r : Int) - 4503599627370496).toNat := by
    unfold sig0 pow0
    by_cases h : r < 4503599627370496
    · simp [h]
    · simp only [if_neg h]
      rw [if_neg (by omega)]
      omega
  have hp1 : 1 ≤ 2 ^ s := Nat.one_le_two_pow
  have ho : odd r ≤ sig0 r := by rw [s1]; exact Nat.le_mul_of_pos_right _ (by omega)
  have hN := nrm_run s 53 (odd r) (power r) (by omega) (fun i hi => by
    refine ⟨?_, by omega⟩
    have h2 : odd r * 2 ^ (i + 1) ≤ odd r * 2 ^ s := Nat.mul_le_mul_left _ (Nat.pow_le_pow_right (by omega) (by omega))
    rw [Nat.pow_succ, ← Nat.mul_assoc] at h2
    omega) (by rw [← s1, show power r - (s : Int) = pow0 r from by omega]; exact hst)
  rw [← s1, show power r - (s : Int) = pow0 r from by omega] at hN
  unfold ofV
  rw [if_neg (by omega), hN]
  simp only
  rw [if_neg (by omega)]
  by_cases h : sig0 r < 4503599627370496
  · rw [if_pos h] at hr ⊢
    rw [← hr]
  · rw [if_neg h] at hr ⊢
    rw [← hr]
theorem ofV_sound (m : Nat) (p : Int) (h : (ofV m p).2 = true) : odd (ofV m p).1 = m ∧ power (ofV m p).1 = p := by
  obtain ⟨f0, f1⟩ := ofV_fit m p h
  have hm : ¬ (m % 2 = 0 ∨ 9007199254740992 ≤ m ∨ p < -1074 ∨ 1023 < p) := fun hh => by
    unfold ofV at h; rw [if_pos hh] at h; cases h
  simp only [not_or] at hm
  have n1 := nrm_pos 53 m p (by omega) (by omega)
  have n2 := nrm_pow 53 m p (by omega)
  have n3 := nrm_stop 53 m p (by omega) (by rw [Nat.sub_self]; show 1 ≤ m; omega)
  obtain ⟨j, hj⟩ := nrm_form 53 m p
  have hv : ofV m p = if 971 < (nrm 53 m p).2 then (0, false) else if (nrm 53 m p).1 < 4503599627370496 then ((nrm 53 m p).1, true) else (((((nrm 53 m p).2 + 1075) * 4503599627370496 + ((nrm 53 m p).1 : Int) - 4503599627370496).toNat), true) := by
    unfold ofV
    rw [if_neg (by simp only [not_or]; exact hm)]
  rw [hj] at n1 n2 n3 hv
  simp only at n1 n2 n3 hv
  have h9 : ¬ 971 < p - (j : Int) := fun hh => by rw [hv, if_pos hh] at h; cases h
  rw [if_neg h9] at hv
  obtain ⟨M, hM⟩ : ∃ M, M = m * 2 ^ j := ⟨_, rfl⟩
  obtain ⟨P, hP⟩ : ∃ P, P = p - (j : Int) := ⟨_, rfl⟩
  rw [← hM] at hv n3 n1
  rw [← hP] at hv n3 n2 h9
  obtain ⟨r, hr⟩ : ∃ r, r = (ofV m p).1 := ⟨_, rfl⟩
  rw [← hr] at f0 f1 ⊢
  rw [hv] at hr
  obtain ⟨s, s1, s2, s3⟩ := strip r f0
  have o2 := (odd_eq f0).2.1
  have hsp : sig0 r = M ∧ pow0 r = P := by
    by_cases hl : M < 4503599627370496
    · rw [if_pos hl] at hr
      simp only at hr
      unfold sig0 pow0
      rw [if_pos (by omega), if_pos (by omega)]
      omega
    · rw [if_neg hl] at hr
      simp only at hr
      unfold sig0 pow0
      rw [if_neg (by omega), if_neg (by omega)]
      omega
  rw [hsp.1, hM] at s1
  rw [hsp.2, hP] at s2
  obtain ⟨u1, u2⟩ := odd_uniq j s m (odd r) (by omega) o2 s1
  exact ⟨u1.symm, by omega⟩

/-! the whole -/
theorem dec_ne48 (u : Nat) (h : 1 ≤ u) : Lib.decDigits u ≠ [48] := fun hh => by
  have h1 := vl_dec u
  rw [hh] at h1
  have : vl [48] = 0 := by decide
  omega
theorem docF_text (neg : Bool) (r : Nat) (h0 : 0 < r) (h1 : r < 9218868437227405312) :
    docF neg (Lib.decDigits (odd r)) (Lib.itoa (power r)) = (r + (if neg then 9223372036854775808 else 0), true) := by
  have pr := power_range h0 h1
  have hB := ofV_back r h0 h1
  have ho : odd r < 10 ^ 16 := by
    obtain ⟨s, s1, s2, s3⟩ := strip r h0
    have hsig : sig0 r < 9007199254740992 := by unfold sig0; split <;> omega
    have : odd r ≤ sig0 r := by rw [s1]; exact Nat.le_mul_of_pos_right _ (Nat.two_pow_pos s)
    omega
  have hd := dgV_dec (odd r) 16 (dec_short 15 _ ho)
  by_cases hn : power r < 0
  · obtain ⟨u, hu⟩ : ∃ u : Nat, power r = -(u : Int) := ⟨(power r).natAbs, by omega⟩
    have ht := dgV_dec u 4 (dec_short 3 _ (by omega))
    have hne := dec_ne u
    rw [hu, Lib.itoa_neg u (by omega), docF_neg _ _ _ (by
      cases h : Lib.decDigits u with
      | nil => exact absurd h hne
      | cons a l => simp) (by
      intro hh
      injection hh with _ hh
      exact dec_ne48 u (by omega) hh)]
    unfold docG
    rw [hd, ht]
    simp only
    rw [← hu, hB]
    simp
  · obtain ⟨u, hu⟩ : ∃ u : Nat, power r = (u : Int) := ⟨(power r).natAbs, by omega⟩
    have ht := dgV_dec u 4 (dec_short 3 _ (by omega))
    rw [hu, Lib.itoa_nonneg u, docF_pos _ _ _ (by
      refine .inr (.inl ?_)
      have hdg := dec_digit u
      cases h : Lib.decDigits u with
      | nil => exact absurd h (dec_ne u)
      | cons a l =>
        refine ⟨by simp, fun ha => ?_⟩
        have h2 := hdg a (by rw [h]; simp)
        have h3 : a = 45 := ha
        subst h3
        have e : (45 : UInt8).toNat = 45 := rfl
        omega)]
    unfold docG
    rw [hd, ht]
    simp only
    rw [← hu, hB]
    simp
theorem text_inj (a b : Nat) (ha : a < 18446744073709551616) (hb : b < 18446744073709551616) (na : nan a = false) (nb : nan b = false) (h : textL a = textL b) : a = b := by
  have h1 := parseI_text a ha na
  rw [h, parseI_text b hb nb] at h1
  injection h1 with h1 _
  exact h1.symm
theorem fl_nan (k : Nat) : nan (fl k) = false := by unfold fl; split <;> (try split) <;> (try split) <;> decide
theorem fl_inj (j k : Nat) (hj : j < 4) (hk : k < 4) (h : fl j = fl k) : j = k := by
  unfold fl at h
  split at h <;> split at h <;> (try split at h) <;> (try split at h) <;> (try split at h) <;> (try split at h) <;> omega
theorem docS_text (b : Nat) (hb : b < 18446744073709551616) (r : Nat) (hr : b % 9223372036854775808 = r) (h0 : 0 < r) (h1 : r < 9218868437227405312) : docS (textL b) = (b, true) := by
  have hT := textL_fin hr h0 h1
  have hmin : minus b = decide (9223372036854775808 ≤ b) := rfl
  have hR : ∀ neg, docR neg (Lib.decDigits (odd r) ++ 112 :: Lib.itoa (power r)) = (r + (if neg then 9223372036854775808 else 0), true) := fun neg => by
    unfold docR
    rw [cutc_of 112 _ _ (p_notin_dec _)]
    exact docF_text neg r h0 h1
  unfold docS
  by_cases hm : 9223372036854775808 ≤ b
  · rw [hT, hmin, decide_eq_true hm]
    rw [if_pos (show ((if true = true then ([45] : List UInt8) else []) ++ (Lib.decDigits (odd r) ++ 112 :: Lib.itoa (power r))).head? = some (45 : UInt8) from rfl)]
    have h2 := hR true
    refine Eq.trans h2 ?_
    rw [if_pos rfl]
    congr 1
    omega
  · rw [hT, hmin, decide_eq_false hm, if_neg (by decide : ¬ false = true), List.nil_append]
    have hh : (Lib.decDigits (odd r) ++ 112 :: Lib.itoa (power r)).head? ≠ some 45 := by
      have hdg := dec_digit (odd r)
      cases h : Lib.decDigits (odd r) with
      | nil => exact absurd h (dec_ne _)
      | cons a l =>
        intro ha
        have h2 := hdg a (by rw [h]; simp)
        have h3 : a = 45 := by simpa using ha
        subst h3
        have e : (45 : UInt8).toNat = 45 := rfl
        omega
    rw [if_neg hh, hR false, if_neg (by decide : ¬ false = true)]
    congr 1
    omega
theorem docP_text (b : Nat) (hb : b < 18446744073709551616) (hn : nan b = false) : docP (textL b) = (b, true) := by
  have hq := of_decide_eq_false hn
  by_cases he : ∃ k, k < 4 ∧ fl k = b
  · obtain ⟨k, hk, rfl⟩ := he
    refine docP_hit _ k hk (fun j hj h => ?_) rfl
    have := fl_inj j k (by omega) hk (text_inj _ _ (fl_lt j) hb (fl_nan j) hn h)
    omega
  · have hno : ∀ j, j < 4 → textL (fl j) ≠ textL b := fun j hj h => he ⟨j, hj, text_inj _ _ (fl_lt j) hb (fl_nan j) hn h⟩
    rw [docP_miss _ hno]
    have e0 : b ≠ 0 := fun h => he ⟨0, by omega, h.symm⟩
    have e1 : b ≠ 9223372036854775808 := fun h => he ⟨1, by omega, h.symm⟩
    have e2 : b ≠ 9218868437227405312 := fun h => he ⟨2, by omega, h.symm⟩
    have e3 : b ≠ 18442240474082181120 := fun h => he ⟨3, by omega, h.symm⟩
    exact docS_text b hb _ rfl (by omega) (by omega)
theorem docG_true (neg : Bool) (A B : Nat × Bool) (p : Int) (h : (docG neg A B p).2 = true) : A.2 = true ∧ B.2 = true ∧ (ofV A.1 p).2 = true ∧ docG neg A B p = ((ofV A.1 p).1 + (if neg then 9223372036854775808 else 0), true) := by
  unfold docG at h ⊢
  by_cases hc : (A.2 && B.2 && (ofV A.1 p).2) = true
  · rw [if_pos hc]
    simp only [Bool.and_eq_true] at hc
    exact ⟨hc.1.1, hc.1.2, hc.2, rfl⟩
  · rw [if_neg hc] at h; cases h
theorem docF_sound (neg : Bool) (hd tl : List UInt8) (h : (docF neg hd tl).2 = true) :
    ∃ r, 0 < r ∧ r < 9218868437227405312 ∧ docF neg hd tl = (r + (if neg then 9223372036854775808 else 0), true) ∧ hd = Lib.decDigits (odd r) ∧ tl = Lib.itoa (power r) := by
  rcases tail_cases tl with ⟨t', rfl, g1, g3⟩ | hm
  · rw [docF_neg _ _ _ g1 g3] at h ⊢
    obtain ⟨a1, a2, a3, a4⟩ := docG_true _ _ _ _ h
    obtain ⟨f0, f1⟩ := ofV_fit _ _ a3
    obtain ⟨o1, o2⟩ := ofV_sound _ _ a3
    refine ⟨_, f0, f1, a4, ?_, ?_⟩
    · rw [o1]; exact dgV_true _ _ a1
    · have ht := dgV_true _ _ a2
      have hn0 : 1 ≤ (dgV t' 4).1 := by
        by_cases hz : (dgV t' 4).1 = 0
        · rw [hz, Lib.decDigits_one (by omega)] at ht
          exact absurd (by rw [ht]; rfl) g3
        · omega
      rw [o2, Lib.itoa_neg _ hn0, ← ht]
  · rw [docF_pos _ _ _ (by
      rcases hm with h | ⟨h, h2⟩ | h
      · exact .inl h
      · exact .inr (.inl ⟨by omega, h2⟩)
      · exact .inr (.inr h))] at h ⊢
    obtain ⟨a1, a2, a3, a4⟩ := docG_true _ _ _ _ h
    obtain ⟨f0, f1⟩ := ofV_fit _ _ a3
    obtain ⟨o1, o2⟩ := ofV_sound _ _ a3
    refine ⟨_, f0, f1, a4, ?_, ?_⟩
    · rw [o1]; exact dgV_true _ _ a1
    · rw [o2, Lib.itoa_nonneg]; exact dgV_true _ _ a2
theorem docR_sound (neg : Bool) (r : List UInt8) (h : (docR neg r).2 = true) :
    ∃ b, b < 18446744073709551616 ∧ nan b = false ∧ textL b = (if neg then [45] else []) ++ r := by
  unfold docR at h
  cases hc : (cutc 112 r).2 with
  | none => rw [hc] at h; cases h
  | some tl =>
    rw [hc] at h
    have hj := cutc_join 112 r tl hc
    obtain ⟨q, q0, q1, _, q3, q4⟩ := docF_sound neg _ tl h
    refine ⟨q + (if neg then 9223372036854775808 else 0), by split <;> omega, decide_eq_false (by split <;> omega), ?_⟩
    rw [textL_fin (r := q) (by split <;> omega) q0 q1, ← q3, ← q4, ← hj]
    cases neg
    · rw [show minus (q + if false = true then 9223372036854775808 else 0) = false from decide_eq_false (by rw [if_neg (by decide)]; omega)]
    · rw [show minus (q + if true = true then 9223372036854775808 else 0) = true from decide_eq_true (by rw [if_pos rfl]; omega)]
theorem docP_sound (s : List UInt8) (h : (docP s).2 = true) : ∃ b, b < 18446744073709551616 ∧ nan b = false ∧ textL b = s := by
  by_cases he : ∃ k, k < 4 ∧ textL (fl k) = s
  · obtain ⟨k, hk, hs⟩ := he
    exact ⟨fl k, fl_lt k, fl_nan k, hs⟩
  · rw [docP_miss s (fun j hj hs => he ⟨j, hj, hs⟩)] at h
    unfold docS at h
    by_cases hd : s.head? = some 45
    · rw [if_pos hd] at h
      obtain ⟨b, hb, hn, ht⟩ := docR_sound true _ h
      refine ⟨b, hb, hn, ?_⟩
      rw [ht]
      cases s with
      | nil => cases hd
      | cons c l => injection hd with hd; rw [hd]; rfl
    · rw [if_neg hd] at h
      obtain ⟨b, hb, hn, ht⟩ := docR_sound false _ h
      exact ⟨b, hb, hn, by rw [ht]; rfl⟩
theorem docG_false (neg : Bool) (A B : Nat × Bool) (p : Int) (h : (docG neg A B p).2 = false) : docG neg A B p = (0, false) := by
  unfold docG at h ⊢
  split
  · rename_i hc; rw [if_pos hc] at h; cases h
  · rfl
theorem docP_false (s : List UInt8) (h : (docP s).2 = false) : docP s = (0, false) := by
  by_cases he : ∃ k, k < 4 ∧ textL (fl k) = s
  · obtain ⟨k, hk, hs⟩ := he
    rw [← hs, docP_text _ (fl_lt k) (fl_nan k)] at h
    cases h
  · rw [docP_miss s (fun j hj hs => he ⟨j, hj, hs⟩)] at h ⊢
    have hF : ∀ neg hd tl, (docF neg hd tl).2 = false → docF neg hd tl = (0, false) := fun neg hd tl h => by
      rcases tail_cases tl with ⟨t', rfl, g1, g3⟩ | hm
      · rw [docF_neg _ _ _ g1 g3] at h ⊢
        exact docG_false _ _ _ _ h
      · rw [docF_pos _ _ _ (by
          rcases hm with h | ⟨h, h2⟩ | h
          · exact .inl h
          · exact .inr (.inl ⟨by omega, h2⟩)
          · exact .inr (.inr h))] at h ⊢
        exact docG_false _ _ _ _ h
    have hR : ∀ neg r, (docR neg r).2 = false → docR neg r = (0, false) := fun neg r h => by
      unfold docR at h ⊢
      cases hc : (cutc 112 r).2 with
      | none => rfl
      | some tl => rw [hc] at h; exact hF _ _ _ h
    unfold docS at h ⊢
    split
    · rename_i hd; rw [if_pos hd] at h; exact hR _ _ h
    · rename_i hd; rw [if_neg hd] at h; exact hR _ _ h
theorem docP_parseI (s : List UInt8) : docP s = parseI s := by
  rcases parseI_cases s with ⟨h1, h2⟩ | ⟨b, hb, hn, ht, hp⟩
  · rw [h1]
    refine docP_false s ?_
    cases h : (docP s).2 with
    | false => rfl
    | true =>
      obtain ⟨b, hb, hn, ht⟩ := docP_sound s h
      exact absurd ht (h2 b hb hn)
  · rw [hp, ← ht]
    exact docP_text b hb hn
end Flo
end Go.Proofs.YtpcdncopdihcpaaDoor
