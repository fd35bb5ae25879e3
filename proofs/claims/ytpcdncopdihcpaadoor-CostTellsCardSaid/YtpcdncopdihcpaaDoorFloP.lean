/- Plain facts about float64 words (no program in sight): order, exact products, nearest words. -/
import Ieee.Arith
namespace Go.Proofs.YtpcdncopdihcpaaDoor
namespace Flo
open Ieee

def TOP : Nat := 9223372036854775808
def INF : Nat := 9218868437227405312
def B52 : Nat := 4503599627370496

theorem sw : double.signWeight = 9223372036854775808 := by decide
theorem bin : double.binade = 4503599627370496 := by decide
theorem inf : double.infRung = 9218868437227405312 := by decide
theorem least : double.leastPlace = -1074 := by decide

/-- significand and exponent (above the least place) of a rung -/
def sig (r : Nat) : Nat := if r < 4503599627370496 then r else 4503599627370496 + r % 4503599627370496
def ex (r : Nat) : Nat := r / 4503599627370496 - 1
def val (r : Nat) : Nat := sig r * 2 ^ ex r

theorem read_fin (b : Nat) (h : b % 9223372036854775808 < 9218868437227405312) :
    double.read b = .number (b / 9223372036854775808 % 2 == 1) (sig (b % 9223372036854775808)) (-1074 + (ex (b % 9223372036854775808) : Int)) := by
  unfold Format.read
  rw [sw, bin, inf, least]
  unfold sig ex
  by_cases h1 : b % 9223372036854775808 < 4503599627370496
  · simp only [h1, if_true]
    have : b % 9223372036854775808 / 4503599627370496 = 0 := Nat.div_eq_of_lt h1
    rw [this]
    rfl
  · simp only [h1, if_false, h, if_true]
theorem read_inf (b : Nat) (h : b % 9223372036854775808 = 9218868437227405312) :
    double.read b = .infinity (b / 9223372036854775808 % 2 == 1) := by
  unfold Format.read
  rw [sw, bin, inf, least, h]
  simp
theorem read_nan (b : Nat) (h : 9218868437227405312 < b % 9223372036854775808) :
    ∃ n t, double.read b = .nan n t := by
  refine ⟨b / 9223372036854775808 % 2 == 1, b % 9223372036854775808 - 9218868437227405312, ?_⟩
  unfold Format.read
  rw [sw, bin, inf, least]
  simp only []
  rw [if_neg (by omega), if_neg (by omega), if_neg (by omega)]

theorem val_mono {r s : Nat} (h : r < s) : val r < val s := by
  unfold val sig ex
  by_cases h1 : s < 4503599627370496
  · have h0 : r < 4503599627370496 := by omega
    rw [if_pos h0, if_pos h1, Nat.div_eq_of_lt h0, Nat.div_eq_of_lt h1]
    simpa using h
  · rw [if_neg h1]
    have hs1 : 1 ≤ s / 4503599627370496 := by omega
    have hs2 : 1 ≤ 2 ^ (s / 4503599627370496 - 1) := Nat.one_le_two_pow
    by_cases h0 : r < 4503599627370496
    · rw [if_pos h0, Nat.div_eq_of_lt h0]
      calc r * 2 ^ (0 - 1) = r := by simp
        _ < 4503599627370496 + s % 4503599627370496 := by omega
        _ ≤ _ := Nat.le_mul_of_pos_right _ (by omega)
    · rw [if_neg h0]
      by_cases he : r / 4503599627370496 = s / 4503599627370496
      · rw [he]
        exact Nat.mul_lt_mul_of_pos_right (by omega) (by omega)
      · have hlt : r / 4503599627370496 < s / 4503599627370496 := by omega
        obtain ⟨d, hd⟩ : ∃ d, s / 4503599627370496 - 1 = (r / 4503599627370496 - 1) + 1 + d := ⟨s / 4503599627370496 - r / 4503599627370496 - 1, by omega⟩
        rw [hd, Nat.pow_add, Nat.pow_succ]
        have h2 : 1 ≤ 2 ^ (r / 4503599627370496 - 1) := Nat.one_le_two_pow
        have h3 : 1 ≤ 2 ^ d := Nat.one_le_two_pow
        calc (4503599627370496 + r % 4503599627370496) * 2 ^ (r / 4503599627370496 - 1)
            < (4503599627370496 * 2) * 2 ^ (r / 4503599627370496 - 1) := Nat.mul_lt_mul_of_pos_right (by omega) (by omega)
          _ = 4503599627370496 * (2 ^ (r / 4503599627370496 - 1) * 2) := by rw [Nat.mul_assoc, Nat.mul_comm 2]
          _ ≤ (4503599627370496 + s % 4503599627370496) * (2 ^ (r / 4503599627370496 - 1) * 2) := Nat.mul_le_mul_right _ (by omega)
          _ ≤ (4503599627370496 + s % 4503599627370496) * (2 ^ (r / 4503599627370496 - 1) * 2 * 2 ^ d) := Nat.mul_le_mul_left _ (Nat.le_mul_of_pos_right _ (by omega))

theorem val_lt {r s : Nat} : val r < val s ↔ r < s :=
  ⟨fun h => by
    rcases Nat.lt_trichotomy r s with h1 | h1 | h1
    · exact h1
    · subst h1; omega
    · have := val_mono h1; omega, val_mono⟩
theorem val_eq {r s : Nat} : val r = val s ↔ r = s :=
  ⟨fun h => by
    rcases Nat.lt_trichotomy r s with h1 | h1 | h1
    · have := val_mono h1; omega
    · exact h1
    · have := val_mono h1; omega, fun h => by rw [h]⟩

/-- shifted to a common base, times the base's power: the value -/
theorem shifted (r : Nat) (base : Int) (n : Nat) (hb : base = -1074 + (n : Int)) (h : n ≤ ex r) :
    (sig r <<< ((-1074 + (ex r : Int)) - base).toNat) * 2 ^ n = val r := by
  have e : ((-1074 + (ex r : Int)) - base).toNat = ex r - n := by omega
  rw [e, Nat.shiftLeft_eq, Nat.mul_assoc, ← Nat.pow_add, Nat.sub_add_cancel h]
  rfl

def rank (b : Nat) : Int := if b / 9223372036854775808 % 2 = 1 then -((b % 9223372036854775808 : Nat) : Int) else ((b % 9223372036854775808 : Nat) : Int)

theorem cmp_congr {a b c d : Int} (h1 : a < b ↔ c < d) (h2 : a = b ↔ c = d) : compare a b = compare c d := by
  rcases Int.lt_trichotomy a b with h | h | h
  · rw [Int.compare_eq_lt.2 h, Int.compare_eq_lt.2 (h1.1 h)]
  · rw [Int.compare_eq_eq.2 h, Int.compare_eq_eq.2 (h2.1 h)]
  · have h3 : ¬ c < d := fun g => by have := h1.2 g; omega
    have h4 : ¬ c = d := fun g => by have := h2.2 g; omega
    rw [Int.compare_eq_gt.2 h, Int.compare_eq_gt.2 (by omega)]

theorem scale_lt (a b : Int) (n : Nat) : a < b ↔ a * ((2 ^ n : Nat) : Int) < b * ((2 ^ n : Nat) : Int) := by
  have hk : (0 : Int) < ((2 ^ n : Nat) : Int) := by have := Nat.two_pow_pos n; omega
  exact ⟨fun h => Int.mul_lt_mul_of_pos_right h hk, fun h => Int.lt_of_mul_lt_mul_right h (by omega)⟩
theorem scale_eq (a b : Int) (n : Nat) : a = b ↔ a * ((2 ^ n : Nat) : Int) = b * ((2 ^ n : Nat) : Int) := by
  have hk : (0 : Int) < ((2 ^ n : Nat) : Int) := by have := Nat.two_pow_pos n; omega
  exact ⟨fun h => by rw [h], fun h => Int.eq_of_mul_eq_mul_right (by omega) h⟩

theorem val_zero (t : Nat) : val t = 0 ↔ t = 0 := by
  have h := @val_eq t 0
  rw [show val 0 = 0 from rfl] at h
  exact h

theorem order_fin (x y : Nat) (hx : x % 9223372036854775808 < 9218868437227405312) (hy : y % 9223372036854775808 < 9218868437227405312) :
    double.order x y = some (compare (rank x) (rank y)) := by
  unfold Format.order
  rw [read_fin x hx, read_fin y hy]
  simp only [Datum.order]
  congr 1
  unfold rank
  generalize hr : x % 9223372036854775808 = r at *
  generalize hs : y % 9223372036854775808 = s at *
  have hn : ∃ n : Nat, min (-1074 + (ex r : Int)) (-1074 + (ex s : Int)) = -1074 + (n : Int) ∧ n ≤ ex r ∧ n ≤ ex s := ⟨min (ex r) (ex s), by omega, by omega, by omega⟩
  obtain ⟨n, hn, h1, h2⟩ := hn
  rw [hn]
  have e1 := shifted r _ n rfl h1
  have e2 := shifted s _ n rfl h2
  have lt := @val_lt r s
  have gt := @val_lt s r
  have eq := @val_eq r s
  have zr := val_zero r
  have zs := val_zero s
  have l1 : ∀ q : Nat, (-(q : Int)) * ((2 ^ n : Nat) : Int) = -((q * 2 ^ n : Nat) : Int) := fun q => by rw [Int.neg_mul, Int.natCast_mul]
  have l2 : ∀ q : Nat, (q : Int) * ((2 ^ n : Nat) : Int) = ((q * 2 ^ n : Nat) : Int) := fun q => by rw [Int.natCast_mul]
  unfold signed
  simp only [beq_iff_eq]
  by_cases c1 : x / 9223372036854775808 % 2 = 1 <;> by_cases c2 : y / 9223372036854775808 % 2 = 1 <;>
    simp only [c1, c2, if_true, if_false] <;> refine cmp_congr ((scale_lt _ _ n).trans ?_) ((scale_eq _ _ n).trans ?_) <;> simp only [l1, l2, e1, e2] <;> (clear l1 l2 e1 e2; omega)

def nan (b : Nat) : Bool := decide (9218868437227405312 < b % 9223372036854775808)

/-- how two words stand to each other: by their ranks, if neither is none -/
theorem order_eq (x y : Nat) (hx : nan x = false) (hy : nan y = false) : double.order x y = some (compare (rank x) (rank y)) := by
  unfold nan at hx hy
  have hx := of_decide_eq_false hx
  have hy := of_decide_eq_false hy
  by_cases h1 : x % 9223372036854775808 < 9218868437227405312
  · by_cases h2 : y % 9223372036854775808 < 9218868437227405312
    · exact order_fin x y h1 h2
    · unfold Format.order
      rw [read_fin x h1, read_inf y (by omega)]
      simp only [Datum.order, rank, beq_iff_eq]
      congr 1
      by_cases c2 : y / 9223372036854775808 % 2 = 1
      · rw [if_pos c2, if_pos c2]
        exact (Int.compare_eq_gt.2 (by split <;> omega)).symm
      · rw [if_neg c2, if_neg c2]
        exact (Int.compare_eq_lt.2 (by split <;> omega)).symm
  · by_cases h2 : y % 9223372036854775808 < 9218868437227405312
    · unfold Format.order
      rw [read_fin y h2, read_inf x (by omega)]
      simp only [Datum.order, rank, beq_iff_eq]
      congr 1
      by_cases c2 : x / 9223372036854775808 % 2 = 1
      · rw [if_pos c2, if_pos c2]
        exact (Int.compare_eq_lt.2 (by split <;> omega)).symm
      · rw [if_neg c2, if_neg c2]
        exact (Int.compare_eq_gt.2 (by split <;> omega)).symm
    · unfold Format.order
      have h3 : x % 9223372036854775808 = 9218868437227405312 := by omega
      have h4 : y % 9223372036854775808 = 9218868437227405312 := by omega
      rw [read_inf x h3, read_inf y h4]
      simp only [Datum.order, rank, h3, h4]
      congr 1
      by_cases c1 : x / 9223372036854775808 % 2 = 1 <;> by_cases c2 : y / 9223372036854775808 % 2 = 1
      · rw [beq_iff_eq.2 c1, beq_iff_eq.2 c2, if_pos c1, if_pos c2]; rfl
      · rw [beq_iff_eq.2 c1, beq_eq_false_iff_ne.2 c2, if_pos c1, if_neg c2]; rfl
      · rw [beq_eq_false_iff_ne.2 c1, beq_iff_eq.2 c2, if_neg c1, if_pos c2]; rfl
      · rw [beq_eq_false_iff_ne.2 c1, beq_eq_false_iff_ne.2 c2, if_neg c1, if_neg c2]; rfl

theorem order_nan (x y : Nat) (h : nan x = true ∨ nan y = true) : double.order x y = none := by
  unfold Format.order
  rcases h with h | h
  · obtain ⟨n, t, e⟩ := read_nan x (of_decide_eq_true h)
    rw [e]
    rfl
  · obtain ⟨n, t, e⟩ := read_nan y (of_decide_eq_true h)
    rw [e]
    cases double.read x <;> rfl

/-- 'x != x' -/
theorem ne_self (b : Nat) : (double.order b b != some .eq) = nan b := by
  cases h : nan b with
  | true => rw [order_nan b b (.inl h)]; rfl
  | false => rw [order_eq b b h h, Int.compare_eq_eq.2 rfl]; rfl

/-! the word nearest to a number that the format has -/
theorem log2_two_pow_mul {q L d : Nat} (h1 : 2 ^ L ≤ q) (h2 : q < 2 ^ (L + 1)) : (q * 2 ^ d).log2 = L + d := by
  have hq : q * 2 ^ d ≠ 0 := by
    have h3 := Nat.two_pow_pos L
    have h4 := Nat.two_pow_pos d
    have : 0 < q * 2 ^ d := Nat.mul_pos (by omega) h4
    omega
  refine (Nat.log2_eq_iff hq).2 ⟨?_, ?_⟩
  · rw [Nat.pow_add]; exact Nat.mul_le_mul_right _ h1
  · rw [show L + d + 1 = (L + 1) + d from by omega, Nat.pow_add]
    exact Nat.mul_lt_mul_of_pos_right h2 (Nat.two_pow_pos d)

theorem cut_exact (neg : Bool) (q d : Nat) (hq : q ≠ 0) : Toward.even.cut neg (q * 2 ^ d) d = q := by
  have hd : min d ((q * 2 ^ d).log2 + 2) = d := by
    have : d ≤ (q * 2 ^ d).log2 := by
      have h0 : q * 2 ^ d ≠ 0 := by
        have := Nat.mul_pos (Nat.pos_of_ne_zero hq) (Nat.two_pow_pos d)
        omega
      exact (Nat.le_log2 h0).2 (Nat.le_mul_of_pos_left _ (Nat.pos_of_ne_zero hq))
    omega
  have hp := Nat.two_pow_pos d
  unfold Toward.cut
  rw [hd, Nat.shiftLeft_eq, Nat.one_mul]
  simp only [Nat.mul_div_cancel _ hp, Nat.mul_mod_left]
  have h1 : ¬ 2 ^ d < 2 * 0 := by omega
  simp [h1]
theorem cut_none (neg : Bool) (n : Nat) : Toward.even.cut neg n 0 = n := by
  unfold Toward.cut
  simp [Nat.mod_one]

/-- a full significand, divided out: q * 2^p written as (q * 2^d) * 2^(p-d) -/
theorem nearest_norm (neg : Bool) (q d : Nat) (p : Int) (hq1 : 4503599627370496 ≤ q) (hq2 : q < 9007199254740992) (hp1 : -1074 ≤ p) (hp2 : p ≤ 971) :
    double.nearest neg (q * 2 ^ d) (p - d) = double.word neg ((p + 1074).toNat * 4503599627370496 + q) := by
  have hne : q * 2 ^ d ≠ 0 := by
    have := Nat.mul_pos (show 0 < q by omega) (Nat.two_pow_pos d)
    omega
  have hlog : (q * 2 ^ d).log2 = 52 + d := log2_two_pow_mul (by simpa using hq1) (by simpa using hq2)
  unfold Format.nearest
  rw [if_neg hne, hlog, least, bin, inf]
  have hl : max (p - (d : Int) + ((52 + d : Nat) : Int) - (double.fractionBits : Int)) (-1074) = p := by
    have : (double.fractionBits : Int) = 52 := rfl
    omega
  simp only [hl]
  rw [show (p - (d : Int) - p).toNat = 0 from by omega, show (p - (p - (d : Int))).toNat = d from by omega, Nat.shiftLeft_zero, cut_exact _ _ _ (by omega)]
  rw [show p - (-1074) = p + 1074 from by omega]
  congr 1
  omega
/-- a subnormal -/
theorem nearest_sub (neg : Bool) (q d : Nat) (hq2 : q < 4503599627370496) : double.nearest neg (q * 2 ^ d) (-1074 - d) = double.word neg q := by
  by_cases hq : q = 0
  · subst hq
    unfold Format.nearest
    simp
  · have hne : q * 2 ^ d ≠ 0 := by
      have := Nat.mul_pos (show 0 < q by omega) (Nat.two_pow_pos d)
      omega
    have hL2 : q.log2 < 52 := (Nat.log2_lt hq).2 (by simpa using hq2)
    have hlog : (q * 2 ^ d).log2 = q.log2 + d := log2_two_pow_mul (Nat.log2_self_le hq) (Nat.lt_log2_self)
    unfold Format.nearest
    rw [if_neg hne, hlog, least, bin, inf]
    have hl : max (-1074 - (d : Int) + ((q.log2 + d : Nat) : Int) - (double.fractionBits : Int)) (-1074) = -1074 := by
      have : (double.fractionBits : Int) = 52 := rfl
      omega
    simp only [hl]
    rw [show (-1074 - (d : Int) - -1074).toNat = 0 from by omega, show (-1074 - (-1074 - (d : Int))).toNat = d from by omega, Nat.shiftLeft_zero, cut_exact _ _ _ hq]
    congr 1
    simp only [Int.sub_self, Int.toNat_zero, Nat.zero_mul, Nat.zero_add]
    omega
/-- a number of fewer digits -/
theorem nearest_few (neg : Bool) (m : Nat) (p : Int) (hm : m ≠ 0) (hm2 : m < 9007199254740992) (hp1 : -1074 ≤ p - (52 - m.log2 : Nat)) (hp2 : p - (52 - m.log2 : Nat) ≤ 971) :
    double.nearest neg m p = double.word neg ((p - (52 - m.log2 : Nat) + 1074).toNat * 4503599627370496 + m * 2 ^ (52 - m.log2)) := by
  have hL : m.log2 < 53 := (Nat.log2_lt hm).2 (by simpa using hm2)
  have h1 := Nat.log2_self_le hm
  have h2 := Nat.lt_log2_self (n := m)
  unfold Format.nearest
  rw [if_neg hm, least, bin, inf]
  have hl : max (p + (m.log2 : Int) - (double.fractionBits : Int)) (-1074) = p - (52 - m.log2 : Nat) := by
    have : (double.fractionBits : Int) = 52 := rfl
    omega
  simp only [hl]
  rw [show (p - (p - ((52 - m.log2 : Nat) : Int))).toNat = 52 - m.log2 from by omega, show (p - ((52 - m.log2 : Nat) : Int) - p).toNat = 0 from by omega, cut_none, Nat.shiftLeft_eq]
  rw [show p - ((52 - m.log2 : Nat) : Int) - -1074 = p - ((52 - m.log2 : Nat) : Int) + 1074 from by omega]
  have h3 : m * 2 ^ (52 - m.log2) < 9007199254740992 := by
    calc m * 2 ^ (52 - m.log2) < 2 ^ (m.log2 + 1) * 2 ^ (52 - m.log2) := Nat.mul_lt_mul_of_pos_right h2 (Nat.two_pow_pos _)
      _ = 2 ^ 53 := by rw [← Nat.pow_add]; congr 1; omega
      _ = _ := by decide
  congr 1
  omega
end Flo
end Go.Proofs.YtpcdncopdihcpaaDoor
