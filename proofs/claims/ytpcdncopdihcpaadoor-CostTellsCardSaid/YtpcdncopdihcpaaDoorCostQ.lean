/- Plain: what is written as a number's text is read back; and only that. -/
import Derived.Test.YtpcdncopdihcpaaDoorCostI
namespace Go.Proofs.YtpcdncopdihcpaaDoor
open Go.RowKit
namespace Flo
open Ieee

/-! the first place of a sign -/
def cutc (c : UInt8) : List UInt8 → List UInt8 × Option (List UInt8)
  | [] => ([], none)
  | b :: l => if b = c then ([], some l) else (b :: (cutc c l).1, (cutc c l).2)
theorem index_cutc (c : UInt8) : ∀ l, Lib.index l [c] = match (cutc c l).2 with | some _ => ((cutc c l).1.length : Int) | none => -1
  | [] => rfl
  | b :: l => by
    have ih := index_cutc c l
    unfold Lib.index cutc
    by_cases h : b = c
    · subst h; simp [List.isPrefixOf]
    · have h1 : (c == b) = false := by simpa using fun e => h e.symm
      simp only [List.isPrefixOf, h1, Bool.and_true, if_false, h, Bool.false_eq_true]
      cases h2 : (cutc c l).2 with
      | none => rw [h2] at ih; simp only at ih; rw [ih]; rfl
      | some t =>
        rw [h2] at ih
        simp only at ih
        rw [ih, if_neg (by simp only [beq_iff_eq]; omega)]
        simp
theorem cutc_join (c : UInt8) : ∀ l t, (cutc c l).2 = some t → l = (cutc c l).1 ++ c :: t
  | [], t, h => by cases h
  | b :: l, t, h => by
    unfold cutc at h ⊢
    by_cases e : b = c
    · rw [if_pos e] at h ⊢
      injection h with h
      subst h
      rw [e]; rfl
    · rw [if_neg e] at h ⊢
      exact congrArg (b :: ·) (cutc_join c l t h)
theorem cutc_none (c : UInt8) : ∀ l, (cutc c l).2 = none → (cutc c l).1 = l
  | [], _ => rfl
  | b :: l, h => by
    unfold cutc at h ⊢
    by_cases e : b = c
    · rw [if_pos e] at h; cases h
    · rw [if_neg e] at h ⊢
      exact congrArg (b :: ·) (cutc_none c l h)
theorem cutc_mem (c : UInt8) : ∀ l, c ∉ (cutc c l).1
  | [] => by simp [cutc]
  | b :: l => by
    unfold cutc
    by_cases e : b = c
    · rw [if_pos e]; simp
    · rw [if_neg e]
      simp only [List.mem_cons, not_or]
      exact ⟨fun h => e h.symm, cutc_mem c l⟩
theorem cutc_of (c : UInt8) : ∀ (a t : List UInt8), c ∉ a → cutc c (a ++ c :: t) = (a, some t)
  | [], t, _ => by simp [cutc]
  | b :: a, t, h => by
    simp only [List.mem_cons, not_or] at h
    rw [List.cons_append]
    unfold cutc
    rw [if_neg (fun e => h.1 e.symm), cutc_of c a t h.2]
theorem cutc_no (c : UInt8) : ∀ (a : List UInt8), c ∉ a → cutc c a = (a, none)
  | [], _ => rfl
  | b :: a, h => by
    simp only [List.mem_cons, not_or] at h
    unfold cutc
    rw [if_neg (fun e => h.1 e.symm), cutc_no c a h.2]
theorem cut_cutc (c : UInt8) (l : List UInt8) : Lib.cut l [c] = ((cutc c l).1, (cutc c l).2.getD [], (cutc c l).2.isSome) := by
  unfold Lib.cut
  rw [index_cutc]
  cases h : (cutc c l).2 with
  | none =>
    have e := cutc_none c l h
    simp only [Option.getD_none, Option.isSome_none, e]
    rfl
  | some t =>
    have e := cutc_join c l t h
    simp only [Option.getD_some, Option.isSome_some, Int.toNat_natCast, List.length_singleton]
    rw [if_pos (by omega)]
    generalize (cutc c l).1 = a at *
    subst e
    simp

/-! digits -/
theorem dec_digit (n : Nat) : ∀ c ∈ Lib.decDigits n, 48 ≤ c.toNat ∧ c.toNat ≤ 57 := by
  induction n using Nat.strongRecOn with
  | _ n ih =>
    intro c hc
    rw [Lib.decDigits] at hc
    split at hc
    · simp only [List.mem_singleton] at hc
      subst hc
      rw [ofNat_toNat _ (by omega)]
      omega
    · rw [List.mem_append] at hc
      rcases hc with hc | hc
      · exact ih (n / 10) (by omega) c hc
      · simp only [List.mem_singleton] at hc
        subst hc
        rw [ofNat_toNat _ (by omega)]
        omega
theorem dec_ne (n : Nat) : Lib.decDigits n ≠ [] := by
  rw [Lib.decDigits]
  split <;> simp
theorem pu_some {base maxv acc d : Nat} {dig : UInt8 → Option Nat} {c : UInt8} (l : List UInt8) (hd : dig c = some d) (g : ¬ maxv < acc * base + d) : pu base maxv dig acc (c :: l) = pu base maxv dig (acc * base + d) l := by
  rw [pu, hd]
  simp only
  rw [if_neg g]
theorem pu_app (base maxv : Nat) (dig : UInt8 → Option Nat) : ∀ (l r : List UInt8) (acc v : Nat), pu base maxv dig acc l = (v, 0) → pu base maxv dig acc (l ++ r) = pu base maxv dig v r
  | [], r, acc, v, h => by
    rw [pu] at h
    injection h with h _
    subst h
    rfl
  | c :: l, r, acc, v, h => by
    rw [List.cons_append]
    cases hd : dig c with
    | none => rw [pu, hd] at h; injection h with _ h; cases h
    | some d =>
      by_cases g : maxv < acc * base + d
      · rw [pu, hd] at h
        simp only at h
        rw [if_pos g] at h; injection h with _ h; cases h
      · rw [pu_some l hd g] at h
        rw [pu_some (l ++ r) hd g]
        exact pu_app base maxv dig l r _ v h
theorem pu_dec (maxv n : Nat) (h : n ≤ maxv) : pu 10 maxv dig10 0 (Lib.decDigits n) = (n, 0) := by
  induction n using Nat.strongRecOn with
  | _ n ih =>
    rw [Lib.decDigits]
    split
    · have : dig10 (UInt8.ofNat (48 + n)) = some n := by unfold dig10; rw [ofNat_toNat _ (by omega), if_pos (by omega)]; congr 1; omega
      unfold pu
      rw [this]
      simp only
      rw [if_neg (by omega)]
      unfold pu
      simp
    · rw [pu_app _ _ _ _ _ _ _ (ih (n / 10) (by omega) (by omega))]
      have : dig10 (UInt8.ofNat (48 + n % 10)) = some (n % 10) := by unfold dig10; rw [ofNat_toNat _ (by omega), if_pos (by omega)]; congr 1; omega
      unfold pu
      rw [this]
      simp only
      rw [if_neg (by omega)]
      unfold pu
      congr 1
      omega
theorem p10_some {acc : Nat} {c : UInt8} (l : List UInt8) (g1 : 48 ≤ c.toNat ∧ c.toNat ≤ 57) (g2 : ¬ 1844674407370955162 ≤ acc) (g3 : ¬ 18446744073709551616 ≤ acc * 10 + (c.toNat - 48)) :
    Lib.parseUint10 acc (c :: l) = Lib.parseUint10 (acc * 10 + (c.toNat - 48)) l := by
  rw [Lib.parseUint10, if_pos g1, if_neg g2, if_neg g3]
theorem p10_app : ∀ (l r : List UInt8) (acc v : Nat), Lib.parseUint10 acc l = .ok v → Lib.parseUint10 acc (l ++ r) = Lib.parseUint10 v r
  | [], r, acc, v, h => by
    rw [Lib.parseUint10] at h
    injection h with h
    subst h
    rfl
  | c :: l, r, acc, v, h => by
    rw [List.cons_append]
    by_cases g1 : 48 ≤ c.toNat ∧ c.toNat ≤ 57
    · by_cases g2 : 1844674407370955162 ≤ acc
      · rw [Lib.parseUint10, if_pos g1, if_pos g2] at h; cases h
      · by_cases g3 : 18446744073709551616 ≤ acc * 10 + (c.toNat - 48)
        · rw [Lib.parseUint10, if_pos g1, if_neg g2, if_pos g3] at h; cases h
        · rw [p10_some l g1 g2 g3] at h
          rw [p10_some (l ++ r) g1 g2 g3]
          exact p10_app l r _ v h
    · rw [Lib.parseUint10, if_neg g1] at h; cases h
theorem p10_dec (n : Nat) (h : n < 1000000) : Lib.parseUint10 0 (Lib.decDigits n) = .ok n := by
  induction n using Nat.strongRecOn with
  | _ n ih =>
    rw [Lib.decDigits]
    split
    · unfold Lib.parseUint10
      rw [ofNat_toNat _ (by omega), if_pos (by omega), if_neg (by omega), if_neg (by omega)]
      unfold Lib.parseUint10
      congr 1
      omega
    · rw [p10_app _ _ _ _ (ih (n / 10) (by omega) (by omega))]
      unfold Lib.parseUint10
      rw [ofNat_toNat _ (by omega), if_pos (by omega), if_neg (by omega), if_neg (by omega)]
      unfold Lib.parseUint10
      congr 1
      omega
theorem mag_dec (n : Nat) (h : n < 1000000) : Lib.parseMag (Lib.decDigits n) = .ok n := by
  unfold Lib.parseMag
  rw [if_neg (dec_ne n), p10_dec n h]
theorem atoiV_itoa (p : Int) (h0 : -1000000 < p) (h1 : p < 1000000) : atoiV (Lib.itoa p) = p := by
  by_cases h : p < 0
  · obtain ⟨u, rfl⟩ : ∃ u : Nat, p = -(u : Int) := ⟨p.natAbs, by omega⟩
    rw [Lib.itoa_neg u (by omega)]
    have : Lib.atoiAll (45 :: Lib.decDigits u) = .ok (-(u : Int)) := by
      unfold Lib.atoiAll
      have e : (if (45 : UInt8).toNat = 43 ∨ (45 : UInt8).toNat = 45 then Lib.decDigits u else 45 :: Lib.decDigits u) = Lib.decDigits u := rfl
      simp only [e, mag_dec u (by omega)]
      have h45 : (45 : UInt8).toNat = 45 := rfl
      rw [if_neg (by rw [h45]; omega), if_neg (by rw [h45]; omega), if_pos h45]
    unfold atoiV
    rw [this]
  · obtain ⟨u, rfl⟩ : ∃ u : Nat, p = (u : Int) := ⟨p.toNat, by omega⟩
    rw [Lib.itoa_nonneg]
    have : Lib.atoiAll (Lib.decDigits u) = .ok (u : Int) := by
      have hm := mag_dec u (by omega)
      have hd := dec_digit u
      cases hl : Lib.decDigits u with
      | nil => exact absurd hl (dec_ne u)
      | cons c r =>
        rw [hl] at hm hd
        have hc := hd c (by simp)
        unfold Lib.atoiAll
        have e : (if c.toNat = 43 ∨ c.toNat = 45 then r else c :: r) = c :: r := if_neg (by omega)
        simp only [e, hm]
        rw [if_neg (by omega), if_neg (by omega), if_neg (by omega)]
    unfold atoiV
    rw [this]

/-! the text of a number -/
theorem power_range {r : Nat} (h0 : 0 < r) (h1 : r < 9218868437227405312) : -1074 ≤ power r ∧ power r ≤ 1023 := by
  obtain ⟨s, s1, s2, s3⟩ := strip r h0
  unfold pow0 at s2
  have hs : sig0 r < 9007199254740992 ∧ 0 < sig0 r := by unfold sig0; split <;> omega
  split at s2
  · omega
  · omega
theorem textL_fin {b r : Nat} (hr : b % 9223372036854775808 = r) (h0 : 0 < r) (h1 : r < 9218868437227405312) :
    textL b = (if minus b then [45] else []) ++ (Lib.decDigits (odd r) ++ 112 :: Lib.itoa (power r)) := by
  have hn : nan b = false := decide_eq_false (by omega)
  unfold textL
  rw [hn, hr, if_neg (by omega : ¬ r = 9218868437227405312), if_neg (by omega : ¬ r = 0), if_neg (by decide : ¬ false = true)]
theorem textL_edge {b : Nat} (hn : nan b = false) (h : b % 9223372036854775808 = 0 ∨ b % 9223372036854775808 = 9218868437227405312) :
    textL b = (if minus b then [45] else []) ++ (if b % 9223372036854775808 = 0 then [48] else [105, 110, 102]) := by
  unfold textL
  rw [hn, if_neg (by decide : ¬ false = true)]
  rcases h with h | h
  · rw [if_neg (by omega : ¬ b % 9223372036854775808 = 9218868437227405312), if_pos h, if_pos h]
  · rw [if_pos h, if_neg (by omega : ¬ b % 9223372036854775808 = 0)]
theorem p_notin_dec (n : Nat) : (112 : UInt8) ∉ Lib.decDigits n := fun h => by
  have := dec_digit n _ h
  have e : (112 : UInt8).toNat = 112 := rfl
  omega
theorem rest_of (m : Bool) (t : List UInt8) (ht : Lib.hasPrefix t [45] = false) : rest ((if m then [45] else []) ++ t) = t ∧ Lib.hasPrefix ((if m then [45] else []) ++ t) [45] = m := by
  cases m
  · refine ⟨?_, ht⟩
    unfold rest Lib.trimPrefix
    show (if Lib.hasPrefix t [45] = true then _ else _) = _
    rw [ht]; rfl
  · refine ⟨?_, ?_⟩
    · unfold rest Lib.trimPrefix Lib.hasPrefix
      simp [List.isPrefixOf]
    · unfold Lib.hasPrefix
      simp [List.isPrefixOf]
theorem dec_noprefix (n : Nat) (l : List UInt8) : Lib.hasPrefix (Lib.decDigits n ++ l) [45] = false := by
  have hd := dec_digit n
  cases h : Lib.decDigits n with
  | nil => exact absurd h (dec_ne n)
  | cons c r =>
    rw [h] at hd
    have hc := hd c (by simp)
    have e : (45 : UInt8).toNat = 45 := rfl
    have : ¬ (45 : UInt8) = c := fun g => by rw [← g] at hc; omega
    simp [Lib.hasPrefix, List.isPrefixOf, this]

/-- a number's text is read as the number -/
theorem f2_text (b : Nat) (hb : b < 18446744073709551616) (hn : nan b = false) : f2 (textL b) = b := by
  have hq := of_decide_eq_false hn
  have hmin : minus b = decide (9223372036854775808 ≤ b) := rfl
  by_cases he : b % 9223372036854775808 = 0 ∨ b % 9223372036854775808 = 9218868437227405312
  · rw [textL_edge hn he]
    obtain ⟨t, het⟩ : ∃ t, t = (if b % 9223372036854775808 = 0 then ([48] : List UInt8) else [105, 110, 102]) := ⟨_, rfl⟩
    rw [← het]
    have ht : Lib.hasPrefix t [45] = false := by rw [het]; split <;> rfl
    obtain ⟨e1, e2⟩ := rest_of (minus b) t ht
    have hf : f1 ((if minus b then [45] else []) ++ t) = b % 9223372036854775808 := by
      unfold f1 f0
      rw [e1, het]
      rcases he with he | he
      · rw [he, if_pos rfl, if_neg (by decide)]
        decide +kernel
      · rw [he, if_neg (by decide : ¬ (9218868437227405312 : Nat) = 0), if_pos rfl]
    unfold f2
    rw [e2, hf, hmin]
    by_cases g : 9223372036854775808 ≤ b
    · rw [decide_eq_true g, if_pos rfl]
      unfold copysign
      omega
    · rw [decide_eq_false g, if_neg (by decide)]
      omega
  · obtain ⟨r, hr⟩ : ∃ r, r = b % 9223372036854775808 := ⟨_, rfl⟩
    have h0 : 0 < r := by omega
    have h1 : r < 9218868437227405312 := by omega
    rw [textL_fin hr.symm h0 h1]
    obtain ⟨e1, e2⟩ := rest_of (minus b) (Lib.decDigits (odd r) ++ 112 :: Lib.itoa (power r)) (dec_noprefix _ _)
    obtain ⟨o1, o2, o3⟩ := odd_eq h0
    obtain ⟨g1, g2⟩ := nsig_ge h0
    have hor : odd r ≤ 9007199254740991 := by
      have := (log_odd o1 g1 g2).2.2.2
      omega
    have hpr := power_range h0 h1
    have hc : Lib.cut (Lib.decDigits (odd r) ++ 112 :: Lib.itoa (power r)) [112] = (Lib.decDigits (odd r), Lib.itoa (power r), true) := by
      rw [cut_cutc, cutc_of _ _ _ (p_notin_dec _)]
      rfl
    have hne : ¬ Lib.decDigits (odd r) ++ 112 :: Lib.itoa (power r) = [105, 110, 102] := fun h => by
      have : (112 : UInt8) ∈ ([105, 110, 102] : List UInt8) := by rw [← h]; simp
      revert this
      decide
    have hf : f1 ((if minus b then [45] else []) ++ (Lib.decDigits (odd r) ++ 112 :: Lib.itoa (power r))) = r := by
      unfold f1 f0
      rw [e1, if_neg hne, hc]
      simp only
      rw [pu_dec _ _ hor, atoiV_itoa _ (by omega) (by omega)]
      unfold ofParts
      simp only
      rw [if_neg (by omega : ¬ odd r = 0), float_odd o1 g1 g2]
      exact ldexp_back r (tzs r) h0 h1 o3
    unfold f2
    rw [e2, hf, hmin]
    by_cases g : 9223372036854775808 ≤ b
    · rw [decide_eq_true g, if_pos rfl]
      unfold copysign
      omega
    · rw [decide_eq_false g, if_neg (by decide)]
      omega
theorem textL_ne (b : Nat) (hn : nan b = false) : textL b ≠ [] := by
  have hq := of_decide_eq_false hn
  by_cases he : b % 9223372036854775808 = 0 ∨ b % 9223372036854775808 = 9218868437227405312
  · rw [textL_edge hn he]
    split <;> split <;> simp
  · rw [textL_fin rfl (by omega) (by omega)]
    simp
theorem textL_nan (b : Nat) (hn : nan b = true) : textL b = [] := by unfold textL; rw [if_pos hn]
theorem parseI_text (b : Nat) (hb : b < 18446744073709551616) (hn : nan b = false) : parseI (textL b) = (b, true) := by
  unfold parseI
  rw [f2_text b hb hn, if_neg (by simp only [ne_eq, not_true_eq_false, or_false]; exact textL_ne b hn)]
theorem parseI_nil : parseI [] = (0, false) := by
  unfold parseI
  rw [if_pos (.inl rfl)]
theorem f2_lt (s : List UInt8) : f2 s < 18446744073709551616 := by
  have h0 : f0 s < 18446744073709551616 := ofParts_lt _ _
  have h1 : f1 s < 18446744073709551616 := by unfold f1; split <;> omega
  unfold f2
  split
  · unfold copysign; omega
  · exact h1
/-- what is read has just that text -/
theorem parseI_cases (s : List UInt8) : parseI s = (0, false) ∧ (∀ b, b < 18446744073709551616 → nan b = false → textL b ≠ s) ∨
    ∃ b, b < 18446744073709551616 ∧ nan b = false ∧ textL b = s ∧ parseI s = (b, true) := by
  by_cases h : ∃ b, b < 18446744073709551616 ∧ nan b = false ∧ textL b = s
  · obtain ⟨b, hb, hn, rfl⟩ := h
    exact .inr ⟨b, hb, hn, rfl, parseI_text b hb hn⟩
  · refine .inl ⟨?_, fun b hb hn e => h ⟨b, hb, hn, e⟩⟩
    unfold parseI
    rw [if_pos]
    by_cases h0 : s = []
    · exact .inl h0
    · refine .inr fun e => h ⟨f2 s, f2_lt s, ?_, e⟩
      cases hn : nan (f2 s) with
      | false => rfl
      | true => rw [textL_nan _ hn] at e; exact absurd e.symm h0
end Flo
end Go.Proofs.YtpcdncopdihcpaaDoor
