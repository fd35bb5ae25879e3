/- Plain facts of the cost layer: a number's parts, its text; that Ldexp of the parts is the number. -/
import Derived.Test.YtpcdncopdihcpaaDoorFlo2
import Derived.Test.YtpcdncopdihcpaaDoorPub
import Derived.Lib.TrailingZeros
namespace Go.Proofs.YtpcdncopdihcpaaDoor
namespace Flo
open Ieee Go.RowKit

theorem mul_one (y : Nat) (h0 : 4503599627370496 ≤ y) (h : y < 9218868437227405312) : double.mul 4607182418800017408 y = some y := by
  have hy : y % 9223372036854775808 = y := Nat.mod_eq_of_lt (by omega)
  have e1 : double.read 4607182418800017408 = .number false 4503599627370496 (-52) := by decide
  have e2 := read_fin y (by rw [hy]; exact h)
  rw [hy, Nat.div_eq_of_lt (show y < 9223372036854775808 by omega)] at e2
  have hE : 1 ≤ y / 4503599627370496 := by omega
  have hE2 : y / 4503599627370496 ≤ 2046 := by omega
  have hs : sig y = 4503599627370496 + y % 4503599627370496 := by unfold sig; rw [if_neg (by omega)]
  have hx : ex y = y / 4503599627370496 - 1 := rfl
  unfold Format.mul
  rw [e1, e2, hs, hx, show ((0 % 2 == 1 : Bool)) = false from rfl]
  simp only [Datum.product, Option.map_some, Format.write, Bool.xor_false]
  have hn := nearest_norm false (4503599627370496 + y % 4503599627370496) 52 (-1074 + ((y / 4503599627370496 - 1 : Nat) : Int)) (by omega) (by omega) (by omega) (by omega)
  rw [show (2 : Nat) ^ 52 = 4503599627370496 from by decide] at hn
  rw [Nat.mul_comm, show (-52 + (-1074 + ((y / 4503599627370496 - 1 : Nat) : Int))) = -1074 + ((y / 4503599627370496 - 1 : Nat) : Int) - ((52 : Nat) : Int) from by omega, hn]
  simp only [Format.word, Bool.false_eq_true, if_false]
  congr 1
  omega

theorem mul_half (M X s Q : Nat) (hM : M < 4503599627370496) (hX : 1 ≤ X) (he : X + s = 54) (hs : 1 ≤ s) (hQ : 4503599627370496 + M = Q * 2 ^ s) :
    double.mul 4368491638549381120 (M + X * 4503599627370496) = some Q := by
  have hy : (M + X * 4503599627370496) % 9223372036854775808 = M + X * 4503599627370496 := Nat.mod_eq_of_lt (by omega)
  have e1 : double.read 4368491638549381120 = .number false 4503599627370496 (-105) := by decide
  have e2 := read_fin (M + X * 4503599627370496) (by rw [hy]; omega)
  rw [hy, Nat.div_eq_of_lt (show M + X * 4503599627370496 < 9223372036854775808 by omega)] at e2
  have hsg : sig (M + X * 4503599627370496) = 4503599627370496 + M := by unfold sig; rw [if_neg (by omega)]; omega
  have hx : ex (M + X * 4503599627370496) = X - 1 := by unfold ex; omega
  have hQ2 : Q < 4503599627370496 := by
    obtain ⟨t, rfl⟩ : ∃ t, s = t + 1 := ⟨s - 1, by omega⟩
    rw [Nat.pow_succ, ← Nat.mul_assoc] at hQ
    have h1 : Q ≤ Q * 2 ^ t := Nat.le_mul_of_pos_right _ (Nat.two_pow_pos t)
    omega
  unfold Format.mul
  rw [e1, e2, hsg, hx, show ((0 % 2 == 1 : Bool)) = false from rfl]
  simp only [Datum.product, Option.map_some, Format.write, Bool.xor_false]
  have hn := nearest_sub false Q (s + 52) hQ2
  rw [Nat.pow_add, ← Nat.mul_assoc, ← hQ, show (2 : Nat) ^ 52 = 4503599627370496 from by decide] at hn
  rw [Nat.mul_comm, show (-105 + (-1074 + ((X - 1 : Nat) : Int))) = -1074 - ((s + 52 : Nat) : Int) from by omega, hn]
  rfl

theorem wrap_small (n : Int) (h1 : -9223372036854775808 ≤ n) (h2 : n ≤ 9223372036854775807) : wrap64 n = n := by unfold wrap64; omega

/-- Frexp's part, times 2^53 -/
theorem ldexp_53 (r : Nat) (h0 : 0 < r) : ldexpF (4598175219545276416 + nsig r) 53 = 4836865999795912704 + nsig r := by
  obtain ⟨h1, h2⟩ := nsig_ge h0
  have hE : (4598175219545276416 + nsig r) / 4503599627370496 = 1022 := by omega
  have hM : (4598175219545276416 + nsig r) % 4503599627370496 = nsig r - 4503599627370496 := by omega
  have he : ldexpE (4598175219545276416 + nsig r) 53 = 52 := by
    unfold ldexpE
    rw [hE, wrap_small _ (by omega) (by omega)]
    rfl
  have hm := mul_one (nsig r - 4503599627370496 + 1075 * 4503599627370496) (by omega) (by omega)
  unfold ldexpF
  rw [he, hM, if_neg (by decide), if_neg (by decide), if_neg (by decide), show ((52 : Int) + 1023).toNat = 1075 from rfl, hm, Option.getD_some]
  omega

/-- Ldexp of an odd number and its power is the number -/
theorem ldexp_back (r t : Nat) (h0 : 0 < r) (h : r < 9218868437227405312) (ht : t ≤ 52) :
    ldexpF ((1074 - t) * 4503599627370496 + nsig r) (nexp r - 53 + t) = r := by
  obtain ⟨h1, h2⟩ := nsig_ge h0
  have hE : ((1074 - t) * 4503599627370496 + nsig r) / 4503599627370496 = 1075 - t := by omega
  have hM : ((1074 - t) * 4503599627370496 + nsig r) % 4503599627370496 = nsig r - 4503599627370496 := by omega
  by_cases hr : r < 4503599627370496
  · obtain ⟨hL, hq1, hq2⟩ := subnorm_q h0 hr
    have hx : nexp r = (r.log2 : Int) - 1073 := by unfold nexp; rw [if_pos hr]
    have he : ldexpE ((1074 - t) * 4503599627370496 + nsig r) (nexp r - 53 + t) = (r.log2 : Int) - 1074 := by
      unfold ldexpE
      rw [hE, hx, show (r.log2 : Int) - 1073 - 53 + (t : Int) + ((1075 - t : Nat) : Int) - 1023 = (r.log2 : Int) - 1074 from by omega, wrap_small _ (by omega) (by omega)]
    have hs : nsig r = r * 2 ^ (52 - r.log2) := by unfold nsig; rw [if_pos hr]
    unfold ldexpF
    rw [he, hM, if_neg (by omega), if_neg (by omega), if_pos (by omega),
      show ((r.log2 : Int) - 1074 + 53 + 1023).toNat = r.log2 + 2 from by omega,
      mul_half (nsig r - 4503599627370496) (r.log2 + 2) (52 - r.log2) r (by omega) (by omega) (by omega) (by omega) (by omega)]
    rfl
  · have hx : nexp r = ((r / 4503599627370496 : Nat) : Int) - 1022 := by unfold nexp; rw [if_neg hr]
    have he : ldexpE ((1074 - t) * 4503599627370496 + nsig r) (nexp r - 53 + t) = ((r / 4503599627370496 : Nat) : Int) - 1023 := by
      unfold ldexpE
      rw [hE, hx, show ((r / 4503599627370496 : Nat) : Int) - 1022 - 53 + (t : Int) + ((1075 - t : Nat) : Int) - 1023 = ((r / 4503599627370496 : Nat) : Int) - 1023 from by omega, wrap_small _ (by omega) (by omega)]
    have hs : nsig r = 4503599627370496 + r % 4503599627370496 := by unfold nsig; rw [if_neg hr]
    unfold ldexpF
    rw [he, hM, if_neg (by omega), if_neg (by omega), if_neg (by omega),
      show (((r / 4503599627370496 : Nat) : Int) - 1023 + 1023).toNat = r / 4503599627370496 from by omega,
      show nsig r - 4503599627370496 + r / 4503599627370496 * 4503599627370496 = r from by omega, mul_one _ (by omega) (by omega)]
    rfl

/-- the float64 of a whole number -/
theorem float_of (n : Nat) (h : n < 9007199254740992) : FloatKind.f64.nearest (n : Int) = if n = 0 then 0 else (1022 + n.log2) * 4503599627370496 + n * 2 ^ (52 - n.log2) := by
  unfold FloatKind.nearest FloatKind.encode
  show double.write (.number (decide ((n : Int) < 0)) (n : Int).natAbs 0) = _
  rw [decide_eq_false (by omega), Int.natAbs_natCast]
  show double.nearest false n 0 = _
  by_cases h0 : n = 0
  · subst h0; rfl
  · rw [if_neg h0]
    have hL : n.log2 < 53 := (Nat.log2_lt h0).2 (by simpa using h)
    rw [nearest_few false n 0 h0 h (by omega) (by omega)]
    simp only [Format.word, Bool.false_eq_true, if_false]
    rw [show ((0 : Int) - ((52 - n.log2 : Nat) : Int) + 1074).toNat = 1022 + n.log2 from by omega]
theorem log_odd {q t n : Nat} (h : q = n * 2 ^ t) (h1 : 4503599627370496 ≤ q) (h2 : q < 9007199254740992) : n ≠ 0 ∧ t ≤ 52 ∧ n.log2 = 52 - t ∧ n < 9007199254740992 := by
  have h0 : n ≠ 0 := by
    rintro rfl
    rw [Nat.zero_mul] at h
    omega
  have hl : q.log2 = n.log2 + t := by rw [h]; exact log2_two_pow_mul (Nat.log2_self_le h0) (Nat.lt_log2_self)
  have hq : q.log2 = 52 := (Nat.log2_eq_iff (by omega)).2 ⟨by simpa using h1, by simpa using h2⟩
  have hn : n ≤ n * 2 ^ t := Nat.le_mul_of_pos_right _ (Nat.two_pow_pos t)
  exact ⟨h0, by omega, by omega, by omega⟩
theorem float_odd {q t n : Nat} (h : q = n * 2 ^ t) (h1 : 4503599627370496 ≤ q) (h2 : q < 9007199254740992) :
    FloatKind.f64.nearest (n : Int) = (1074 - t) * 4503599627370496 + q := by
  obtain ⟨h0, ht, hl, hn⟩ := log_odd h h1 h2
  rw [float_of n hn, if_neg h0, hl, show 52 - (52 - t) = t from by omega, ← h, show 1022 + (52 - t) = 1074 - t from by omega]

/-! the parts, and the text -/
def tzs (r : Nat) : Nat := Lib.ctz 64 (nsig r)
def odd (r : Nat) : Nat := nsig r / 2 ^ tzs r
def power (r : Nat) : Int := nexp r - 53 + tzs r
theorem odd_eq {r : Nat} (h0 : 0 < r) : nsig r = odd r * 2 ^ tzs r ∧ odd r % 2 = 1 ∧ tzs r ≤ 52 := by
  obtain ⟨h1, h2⟩ := nsig_ge h0
  have hne : nsig r ≠ 0 := by omega
  have hc : tzs r = Lib.ctzFrom 64 (nsig r) := by unfold tzs Lib.ctz; rw [if_neg hne]
  obtain ⟨m, hm, hk⟩ := Lib.ctzFrom_spec 64 (nsig r) (by omega) (by omega)
  rw [← hc] at hm hk
  have hodd : odd r = 2 * m + 1 := by
    unfold odd
    rw [hm]
    conv => lhs; rw [← hm]
    rw [hm]
    exact Nat.mul_div_cancel_left _ (Nat.two_pow_pos _)
  refine ⟨by rw [hodd, Nat.mul_comm]; exact hm, by omega, ?_⟩
  have := (log_odd (n := 2 * m + 1) (t := tzs r) (by rw [Nat.mul_comm]; exact hm) h1 h2).2.1
  exact this
end Flo
end Go.Proofs.YtpcdncopdihcpaaDoor
