/- The calls of package math that the cost layer makes, as functions of the words. -/
import Derived.Test.YtpcdncopdihcpaaDoorProg
import Derived.Test.YtpcdncopdihcpaaDoorFloP
import Derived.WalkKit
import Derived.WalkLawsBesides
import Derived.WalkSpells
import Derived.Outline
import Derived.Below
import Derived.Lib.Hide
import Derived.Laws.BitsAllLaws
import Derived.KernelRfl
import Derived.BigQuiet
import Derived.Deep.QuietTactic
namespace Go.Proofs.YtpcdncopdihcpaaDoor
open Go.RowKit
namespace Flo
open Ieee

theorem fbits (b : Nat) (w : World) : (callFunc 37 #[.float .f64 b]).run Tryd.prog w = .ok (.value (.int .u64 (b : Int))) w := by kernel_rfl
theorem ffrom (n : Int) (w : World) : (callFunc 9 #[.int .u64 n]).run Tryd.prog w = .ok (.value (.float .f64 n.toNat)) w := by kernel_rfl

theorem mask63 (b : Nat) (h : b < 18446744073709551616) : bits .andNot .u64 (b : Int) 9223372036854775808 = ((b % 9223372036854775808 : Nat) : Int) := by
  have e := u64_andNot_nat b 9223372036854775808 h (by omega)
  rw [show ((9223372036854775808 : Nat) : Int) = 9223372036854775808 from rfl] at e
  rw [e]
  congr 1
  exact Nat.and_two_pow_sub_one_eq_mod b 63

theorem ret_fi {a b : Nat} {m n : Int} (h : a = b) (g : m = n) : Ending.returned (.tuple #[.float .f64 a, .int .i64 m]) = Ending.returned (.tuple #[.float .f64 b, .int .i64 n]) := by rw [h, g]
theorem bit63 (b : Nat) (h : b < 18446744073709551616) : bits .and .u64 (b : Int) 9223372036854775808 = ((b / 9223372036854775808 * 9223372036854775808 : Nat) : Int) := by
  have e := u64_and_nat b 9223372036854775808 h (by omega)
  rw [show ((9223372036854775808 : Nat) : Int) = 9223372036854775808 from rfl] at e
  rw [e]
  congr 1
  rw [show 9223372036854775808 = 2 ^ 63 from rfl, nat_bit]
  congr 1
  omega
theorem join63 (x y : Nat) (hx : x < 9223372036854775808) (hy : y < 2) : bits .or .u64 (x : Int) ((y * 9223372036854775808 : Nat) : Int) = ((x + y * 9223372036854775808 : Nat) : Int) := by
  rw [u64_or_nat _ _ (by omega) (by omega)]
  congr 1
  rw [Nat.or_comm, nat_join 63 _ _ (by omega) (by omega)]
  omega
theorem above_max (r : Nat) (h : r < 9223372036854775808) : (double.order r 9218868437227405311 == some Ordering.gt) = decide (r = 9218868437227405312) := by
  by_cases hn : nan r = true
  · rw [order_nan _ _ (.inl hn)]
    have := of_decide_eq_true hn
    rw [Nat.mod_eq_of_lt h] at this
    exact (decide_eq_false (by omega)).symm
  · have hn : nan r = false := by simpa using hn
    have hq := of_decide_eq_false hn
    rw [Nat.mod_eq_of_lt h] at hq
    rw [order_eq _ _ hn (by decide)]
    have e1 : rank r = r := by unfold rank; rw [Nat.mod_eq_of_lt h, Nat.div_eq_of_lt h]; rfl
    have e2 : rank 9218868437227405311 = 9218868437227405311 := by decide
    rw [e1, e2]
    by_cases g : r = 9218868437227405312
    · rw [Int.compare_eq_gt.2 (by omega), decide_eq_true g]; rfl
    · rw [decide_eq_false g]
      by_cases g2 : r = 9218868437227405311
      · rw [Int.compare_eq_eq.2 (by omega)]; rfl
      · rw [Int.compare_eq_lt.2 (by omega)]; rfl
theorem below_least (r : Nat) (h : r < 9218868437227405313) : (FloatKind.f64.format.order r 4503599627370496 == some Ordering.lt) = decide (r < 4503599627370496) := by
  show (double.order r 4503599627370496 == some Ordering.lt) = _
  have hr : r % 9223372036854775808 = r := Nat.mod_eq_of_lt (by omega)
  rw [order_eq _ _ (by unfold nan; rw [hr]; exact decide_eq_false (by omega)) (by decide)]
  have e1 : rank r = r := by unfold rank; rw [hr, Nat.div_eq_of_lt (by omega)]; rfl
  have e2 : rank 4503599627370496 = 4503599627370496 := by decide
  rw [e1, e2]
  by_cases g : r < 4503599627370496
  · rw [Int.compare_eq_lt.2 (by omega), decide_eq_true g]; rfl
  · rw [decide_eq_false g]
    by_cases g2 : r = 4503599627370496
    · rw [Int.compare_eq_eq.2 (by omega)]; rfl
    · rw [Int.compare_eq_gt.2 (by omega)]; rfl
/-- a subnormal number times 2^52 -/
def subnorm (r : Nat) : Nat := r.log2 * 4503599627370496 + r * 2 ^ (52 - r.log2)
theorem subnorm_q {r : Nat} (h0 : 0 < r) (h : r < 4503599627370496) : r.log2 < 52 ∧ 4503599627370496 ≤ r * 2 ^ (52 - r.log2) ∧ r * 2 ^ (52 - r.log2) < 9007199254740992 := by
  have hL : r.log2 < 52 := (Nat.log2_lt (by omega)).2 (by simpa using h)
  have h1 := Nat.log2_self_le (n := r) (by omega)
  have h2 := Nat.lt_log2_self (n := r)
  refine ⟨hL, ?_, ?_⟩
  · calc 4503599627370496 = 2 ^ r.log2 * 2 ^ (52 - r.log2) := by rw [← Nat.pow_add, show r.log2 + (52 - r.log2) = 52 from by omega]
      _ ≤ _ := Nat.mul_le_mul_right _ h1
  · calc r * 2 ^ (52 - r.log2) < 2 ^ (r.log2 + 1) * 2 ^ (52 - r.log2) := Nat.mul_lt_mul_of_pos_right h2 (Nat.two_pow_pos _)
      _ = 9007199254740992 := by rw [← Nat.pow_add, show r.log2 + 1 + (52 - r.log2) = 53 from by omega]
theorem fmul {x y z : Nat} (h : FloatKind.f64.format.mul x y = some z) (t : TypeId) : binOp .mul t (.float .f64 x) (.float .f64 y) = pure (.float .f64 z) := by
  simp [binOp, Op.floatArith, h]
set_option maxRecDepth 100000 in
theorem mul_up (r : Nat) (h0 : 0 < r) (h : r < 4503599627370496) : FloatKind.f64.format.mul r 4841369599423283200 = some (subnorm r) := by
  show double.mul r 4841369599423283200 = _
  obtain ⟨hL, hq1, hq2⟩ := subnorm_q h0 h
  have hr : r % 9223372036854775808 = r := Nat.mod_eq_of_lt (by omega)
  have e2 : double.read 4841369599423283200 = .number false 4503599627370496 0 := by decide
  have e1 := read_fin r (by rw [hr]; omega)
  rw [hr, Nat.div_eq_of_lt (show r < 9223372036854775808 by omega)] at e1
  unfold sig ex at e1
  rw [if_pos h, Nat.div_eq_of_lt h] at e1
  unfold Format.mul
  rw [e1, e2]
  rw [show ((0 % 2 == 1 : Bool)) = false from rfl]
  simp only [Datum.product, Option.map_some, Format.write, Bool.xor_false]
  have hn := nearest_norm false (r * 2 ^ (52 - r.log2)) r.log2 (-1074 + (r.log2 : Int)) hq1 hq2 (by omega) (by omega)
  rw [Nat.mul_assoc, ← Nat.pow_add, show 52 - r.log2 + r.log2 = 52 from by omega, show (2 : Nat) ^ 52 = 4503599627370496 from by decide] at hn
  rw [show (-1074 + ((0 - 1 : Nat) : Int) + 0) = -1074 + (r.log2 : Int) - (r.log2 : Int) from by omega, hn]
  rw [show (-1074 + (r.log2 : Int) + 1074).toNat = r.log2 from by omega]
  simp only [Format.word, subnorm, Bool.false_eq_true, if_false]
theorem ret_bool {a b : Bool} (h : a = b) : Ending.returned (.bool a) = Ending.returned (.bool b) := by rw [h]
theorem ret_float {a b : Nat} (h : a = b) : Ending.returned (.float .f64 a) = Ending.returned (.float .f64 b) := by rw [h]

attribute [local go_sem] fbits ffrom

set_option maxRecDepth 100000 in
theorem isNaN_any (b : Nat) (w : World) : Calls Tryd.prog 30 #[.float .f64 b] w fun e w' => e = .returned (.bool (nan b)) ∧ w = w' := by
  rw [← ne_self b]
  go_enter Tryd.func30, Tryd.ntmps30
  go_wp2
  go_ret
  exact ⟨rfl, rfl⟩

set_option maxRecDepth 100000 in
theorem abs_any (b : Nat) (hb : b < 18446744073709551616) (w : World) : Calls Tryd.prog 34 #[.float .f64 b] w fun e w' => e = .returned (.float .f64 (b % 9223372036854775808)) ∧ w = w' := by
  have hm := mask63 b hb
  go_enter Tryd.func34, Tryd.ntmps34
  go_wp2
  go_ret
  exact ⟨rfl, rfl⟩

set_option maxRecDepth 100000 in
theorem signbit_any (b : Nat) (hb : b < 18446744073709551616) (w : World) : Calls Tryd.prog 31 #[.float .f64 b] w fun e w' => e = .returned (.bool (decide (9223372036854775808 ≤ b))) ∧ w = w' := by
  go_enter Tryd.func31, Tryd.ntmps31
  go_wp2
  go_ret
  exact ⟨ret_bool (decide_eq_decide.2 (by unfold wrap64; omega)), rfl⟩

set_option maxRecDepth 100000 in
theorem isInf_any (b : Nat) (hb : b < 18446744073709551616) (w : World) : Calls Tryd.prog 32 #[.float .f64 b, .int .i64 0] w fun e w' => e = .returned (.bool (decide (b % 9223372036854775808 = 9218868437227405312))) ∧ w = w' := by
  go_enter Tryd.func32, Tryd.ntmps32
  go_wp2_with (go_at_call 34; refine (abs_any _ hb _).mono ?_; rintro e w' ⟨rfl, rfl⟩)
  go_ret
  exact ⟨ret_bool (above_max _ (Nat.mod_lt _ (by omega))), rfl⟩

set_option maxRecDepth 100000 in
theorem inf_pos (w : World) : Calls Tryd.prog 42 #[.int .i64 1] w fun e w' => e = .returned (.float .f64 9218868437227405312) ∧ w = w' := by
  go_enter Tryd.func42, Tryd.ntmps42
  go_wp2
  go_ret
  exact ⟨rfl, rfl⟩
set_option maxRecDepth 100000 in
theorem inf_neg (w : World) : Calls Tryd.prog 42 #[.int .i64 (-1)] w fun e w' => e = .returned (.float .f64 18442240474082181120) ∧ w = w' := by
  go_enter Tryd.func42, Tryd.ntmps42
  go_wp2
  go_ret
  exact ⟨rfl, rfl⟩

/-- the sign's bit of s, the others of b -/
def copysign (b s : Nat) : Nat := b % 9223372036854775808 + s / 9223372036854775808 * 9223372036854775808
set_option maxRecDepth 100000 in
theorem copysign_any (b s : Nat) (hb : b < 18446744073709551616) (hs : s < 18446744073709551616) (w : World) : Calls Tryd.prog 43 #[.float .f64 b, .float .f64 s] w fun e w' => e = .returned (.float .f64 (copysign b s)) ∧ w = w' := by
  have hm := mask63 b hb
  have hn := bit63 s hs
  have hj : bits .or .u64 ((b : Int) % 9223372036854775808) ((s : Int) / 9223372036854775808 * 9223372036854775808) = ((copysign b s : Nat) : Int) := join63 (b % 9223372036854775808) (s / 9223372036854775808) (by omega) (by omega)
  go_enter Tryd.func43, Tryd.ntmps43
  go_wp2
  go_ret
  exact ⟨rfl, rfl⟩

set_option maxRecDepth 100000 in
theorem normalize_sub (r : Nat) (h0 : 0 < r) (h : r < 4503599627370496) (w : World) : Calls Tryd.prog 80 #[.float .f64 r] w fun e w' => e = .returned (.tuple #[.float .f64 (subnorm r), .int .i64 (-52)]) ∧ w = w' := by
  have hm := fmul (mul_up r h0 h)
  have hr : r % 9223372036854775808 = r := Nat.mod_eq_of_lt (by omega)
  have hl := below_least r (by omega)
  rw [decide_eq_true h] at hl
  have ha := abs_any r (by omega) w
  rw [hr] at ha
  clear hr
  have Ha := Lib.hid ha
  clear ha
  go_enter Tryd.func80, Tryd.ntmps80
  go_wp2_with (go_at_call 34; refine Ha.out.mono ?_; rintro e w' ⟨rfl, rfl⟩)
  go_ret2
  exact ⟨rfl, rfl⟩
set_option maxRecDepth 100000 in
theorem normalize_norm (r : Nat) (h0 : 4503599627370496 ≤ r) (h : r < 9218868437227405312) (w : World) : Calls Tryd.prog 80 #[.float .f64 r] w fun e w' => e = .returned (.tuple #[.float .f64 r, .int .i64 0]) ∧ w = w' := by
  have hr : r % 9223372036854775808 = r := Nat.mod_eq_of_lt (by omega)
  have hl := below_least r (by omega)
  rw [decide_eq_false (by omega)] at hl
  have ha := abs_any r (by omega) w
  rw [hr] at ha
  clear hr
  have Ha := Lib.hid ha
  clear ha
  go_enter Tryd.func80, Tryd.ntmps80
  go_wp2_with (go_at_call 34; refine Ha.out.mono ?_; rintro e w' ⟨rfl, rfl⟩)
  go_ret2
  exact ⟨rfl, rfl⟩


/-- the significand, and frexp's exponent, of a rung above 0 and below infinity's -/
def nsig (r : Nat) : Nat := if r < 4503599627370496 then r * 2 ^ (52 - r.log2) else 4503599627370496 + r % 4503599627370496
def nexp (r : Nat) : Int := if r < 4503599627370496 then (r.log2 : Int) - 1073 else ((r / 4503599627370496 : Nat) : Int) - 1022
theorem nsig_ge {r : Nat} (h0 : 0 < r) : 4503599627370496 ≤ nsig r ∧ nsig r < 9007199254740992 := by
  unfold nsig
  split
  · rename_i h
    exact (subnorm_q h0 h).2
  · omega

theorem zero_no (r : Nat) (h0 : 0 < r) (h : r < 9218868437227405313) : (FloatKind.f64.format.order r 0 == some Ordering.eq) = false := by
  show (double.order r 0 == some Ordering.eq) = _
  have hr : r % 9223372036854775808 = r := Nat.mod_eq_of_lt (by omega)
  rw [order_eq _ _ (by unfold nan; rw [hr]; exact decide_eq_false (by omega)) (by decide)]
  have e1 : rank r = r := by unfold rank; rw [hr, Nat.div_eq_of_lt (by omega)]; rfl
  have e2 : rank 0 = 0 := by decide
  rw [e1, e2, Int.compare_eq_gt.2 (by omega)]
  rfl
theorem isInf_no (r : Nat) (h : r < 9218868437227405312) (w : World) : Calls Tryd.prog 32 #[.float .f64 r, .int .i64 0] w fun e w' => e = .returned (.bool false) ∧ w = w' := by
  have e := isInf_any r (by omega) w
  rw [decide_eq_false (by omega)] at e
  exact e
theorem isNaN_no (r : Nat) (h : r < 9218868437227405312) (w : World) : Calls Tryd.prog 30 #[.float .f64 r] w fun e w' => e = .returned (.bool false) ∧ w = w' := by
  have e := isNaN_any r w
  rw [show nan r = false from decide_eq_false (by omega)] at e
  exact e
theorem and2047 (x : Nat) (h : x < 18446744073709551616) : bits .and .u64 (x : Int) 2047 = ((x % 2048 : Nat) : Int) := by
  have e := u64_and_nat x 2047 h (by omega)
  rw [show ((2047 : Nat) : Int) = 2047 from rfl] at e
  rw [e]
  congr 1
  exact Nat.and_two_pow_sub_one_eq_mod x 11
theorem drop_ex (x : Nat) (h : x < 9223372036854775808) : bits .andNot .u64 (x : Int) 9218868437227405312 = ((x % 4503599627370496 : Nat) : Int) := by
  have e := u64_andNot_nat x 9218868437227405312 (by omega) (by omega)
  rw [show ((9218868437227405312 : Nat) : Int) = 9218868437227405312 from rfl] at e
  rw [e]
  congr 1
  have h1 : x = x &&& 9223372036854775807 := by rw [show 9223372036854775807 = 2 ^ 63 - 1 from rfl, Nat.and_two_pow_sub_one_eq_mod]; omega
  rw [h1, Nat.and_assoc, show 9223372036854775807 &&& (18446744073709551615 - 9218868437227405312) = 2 ^ 52 - 1 from by decide, Nat.and_two_pow_sub_one_eq_mod, ← h1]
theorem or_ex (x e : Nat) (h : x < 4503599627370496) : x ||| (e * 4503599627370496) = x + e * 4503599627370496 := by
  rw [Nat.or_comm, nat_join 52 _ _ (by omega) (by simpa using h)]
  omega
theorem or1022 (x : Nat) (h : x < 4503599627370496) : bits .or .u64 (x : Int) 4602678819172646912 = ((x + 4602678819172646912 : Nat) : Int) := by
  have e := u64_or_nat x 4602678819172646912 (by omega) (by omega)
  rw [show ((4602678819172646912 : Nat) : Int) = 4602678819172646912 from rfl] at e
  rw [e]
  congr 1
  exact or_ex x 1022 h

set_option maxRecDepth 100000 in
theorem frexp_sub (r : Nat) (h0 : 0 < r) (h : r < 4503599627370496) (w : World) : Calls Tryd.prog 60 #[.float .f64 r] w fun e w' => e = .returned (.tuple #[.float .f64 (4598175219545276416 + nsig r), .int .i64 (nexp r)]) ∧ w = w' := by
  obtain ⟨hL, hq1, hq2⟩ := subnorm_q h0 h
  have hz := zero_no r h0 (by omega)
  obtain ⟨y, hy⟩ : ∃ y, y = subnorm r := ⟨_, rfl⟩
  have hn := normalize_sub r h0 h w
  rw [← hy] at hn
  have Hn := Lib.hid hn
  clear hn
  have hy1 : y / 4503599627370496 = r.log2 + 1 := by rw [hy]; unfold subnorm; omega
  have hy2 : y % 4503599627370496 = nsig r - 4503599627370496 := by rw [hy]; unfold subnorm nsig; rw [if_pos h]; omega
  have hy3 : y < 9223372036854775808 := by omega
  have a1 : bits .and .u64 ((y : Int) / 4503599627370496) 2047 = ((r.log2 + 1 : Nat) : Int) := by
    rw [show (y : Int) / 4503599627370496 = ((y / 4503599627370496 : Nat) : Int) from by omega, and2047 _ (by omega), hy1]
    congr 1
    omega
  have a2 := drop_ex y hy3
  rw [hy2] at a2
  have hs := nsig_ge h0
  have a3 := or1022 (nsig r - 4503599627370496) (by omega)
  have A3 := Lib.hid a3
  clear a3
  clear hy hy1 hy2
  have hx : nexp r = (r.log2 : Int) - 1073 := by unfold nexp; rw [if_pos h]
  go_enter Tryd.func60, Tryd.ntmps60
  go_wp2_with (first
    | (go_at_call 32; refine (isInf_no r (by omega) _).mono ?_; rintro e w' ⟨rfl, rfl⟩)
    | (go_at_call 30; refine (isNaN_no r (by omega) _).mono ?_; rintro e w' ⟨rfl, rfl⟩)
    | (go_at_call 80; refine Hn.out.mono ?_; rintro e w' ⟨rfl, rfl⟩))
  go_ret2
  refine ⟨ret_fi ?_ ?_, rfl⟩
  · exact (congrArg Int.toNat A3.out).trans (by omega)
  · rw [hx]; omega

set_option maxRecDepth 100000 in
theorem frexp_norm (r : Nat) (h0 : 4503599627370496 ≤ r) (h : r < 9218868437227405312) (w : World) : Calls Tryd.prog 60 #[.float .f64 r] w fun e w' => e = .returned (.tuple #[.float .f64 (4598175219545276416 + nsig r), .int .i64 (nexp r)]) ∧ w = w' := by
  have hz := zero_no r (by omega) (by omega)
  have Hn := Lib.hid (normalize_norm r h0 h w)
  have a1 : bits .and .u64 ((r : Int) / 4503599627370496) 2047 = ((r / 4503599627370496 : Nat) : Int) := by
    rw [show (r : Int) / 4503599627370496 = ((r / 4503599627370496 : Nat) : Int) from by omega, and2047 _ (by omega)]
    congr 1
    omega
  obtain ⟨E, hE⟩ : ∃ E, E = r / 4503599627370496 := ⟨_, rfl⟩
  obtain ⟨M, hM⟩ : ∃ M, M = r % 4503599627370496 := ⟨_, rfl⟩
  have hE2 : E < 2048 := by omega
  have hM2 : M < 4503599627370496 := by omega
  rw [← hE] at a1
  have a2 := drop_ex r (by omega)
  rw [← hM] at a2
  have A3 := Lib.hid (or1022 M (by omega))
  have hs : nsig r = 4503599627370496 + M := by unfold nsig; rw [if_neg (by omega), hM]
  have hx : nexp r = (E : Int) - 1022 := by unfold nexp; rw [if_neg (by omega), hE]
  have Hs := Lib.hid hs
  have Hx := Lib.hid hx
  clear hE hM hs hx
  go_enter Tryd.func60, Tryd.ntmps60
  go_wp2_with (first
    | (go_at_call 32; refine (isInf_no r (by omega) _).mono ?_; rintro e w' ⟨rfl, rfl⟩)
    | (go_at_call 30; refine (isNaN_no r (by omega) _).mono ?_; rintro e w' ⟨rfl, rfl⟩)
    | (go_at_call 80; refine Hn.out.mono ?_; rintro e w' ⟨rfl, rfl⟩))
  go_ret2
  refine ⟨ret_fi ?_ ?_, rfl⟩
  · refine (congrArg Int.toNat A3.out).trans ?_
    rw [Hs.out]
    omega
  · rw [Hx.out]; show (E : Int) - 1023 + 1 = _; omega

theorem frexp_any (r : Nat) (h0 : 0 < r) (h : r < 9218868437227405312) (w : World) : Calls Tryd.prog 60 #[.float .f64 r] w fun e w' => e = .returned (.tuple #[.float .f64 (4598175219545276416 + nsig r), .int .i64 (nexp r)]) ∧ w = w' := by
  by_cases g : r < 4503599627370496
  · exact frexp_sub r h0 g w
  · exact frexp_norm r (by omega) h w
set_option maxRecDepth 100000 in
theorem Frexp_any (r : Nat) (h0 : 0 < r) (h : r < 9218868437227405312) (w : World) : Calls Tryd.prog 33 #[.float .f64 r] w fun e w' => e = .returned (.tuple #[.float .f64 (4598175219545276416 + nsig r), .int .i64 (nexp r)]) ∧ w = w' := by
  go_enter Tryd.func33, Tryd.ntmps33
  go_wp2_with (go_at_call 60; refine (frexp_any r h0 h _).mono ?_; rintro e w' ⟨rfl, rfl⟩)
  go_ret2
  exact ⟨rfl, rfl⟩

end Flo
end Go.Proofs.YtpcdncopdihcpaaDoor
