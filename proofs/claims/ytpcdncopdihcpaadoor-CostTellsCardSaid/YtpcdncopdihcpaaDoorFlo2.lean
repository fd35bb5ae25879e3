/- Ldexp, and the trailing noughts. -/
import Derived.Test.YtpcdncopdihcpaaDoorProg
import Derived.Test.YtpcdncopdihcpaaDoorFlo
import Derived.WalkKit
import Derived.WalkLawsBesides
import Derived.WalkSpells
import Derived.Outline
import Derived.Below
import Derived.Lib.Hide
import Derived.Laws.BitsAllLaws
import Derived.KernelRfl
import Derived.BigQuiet
import Derived.Deep.QuietTactic
namespace Go.Proofs.YtpcdncopdihcpaaDoor
open Go.RowKit
namespace Flo
open Ieee
attribute [local go_sem] fbits ffrom

/-- what Ldexp gives of a normal number above 0 -/
def ldexpE (fr : Nat) (k : Int) : Int := wrap64 (k + ((fr / 4503599627370496 : Nat) : Int) - 1023)
def ldexpF (fr : Nat) (k : Int) : Nat :=
  if ldexpE fr k < -1075 then 0 else if 1023 < ldexpE fr k then 9218868437227405312 else
  if ldexpE fr k < -1022 then (double.mul 4368491638549381120 (fr % 4503599627370496 + (ldexpE fr k + 53 + 1023).toNat * 4503599627370496)).getD 0
  else (double.mul 4607182418800017408 (fr % 4503599627370496 + (ldexpE fr k + 1023).toNat * 4503599627370496)).getD 0

theorem orI (M : Nat) (e : Int) (hM : M < 4503599627370496) (h0 : 0 ≤ e) (h1 : e < 4096) : (bits .or .u64 (M : Int) (e * 4503599627370496)).toNat = M + e.toNat * 4503599627370496 := by
  obtain ⟨n, rfl⟩ := Int.eq_ofNat_of_zero_le h0
  have e := u64_or_nat M (n * 4503599627370496) (by omega) (by omega)
  rw [show ((n * 4503599627370496 : Nat) : Int) = (n : Int) * 4503599627370496 from by omega] at e
  rw [e, or_ex M n hM]
  rfl
theorem mul_fin (x y : Nat) (hx : x % 9223372036854775808 < 9218868437227405312) (hy : y % 9223372036854775808 < 9218868437227405312) : ∃ z, double.mul x y = some z := by
  unfold Format.mul
  rw [read_fin x hx, read_fin y hy]
  exact ⟨_, rfl⟩
theorem neg_no (r : Nat) (h : r < 9218868437227405313) : (FloatKind.f64.format.order r 0 == some Ordering.lt) = false := by
  show (double.order r 0 == some Ordering.lt) = _
  have hr : r % 9223372036854775808 = r := Nat.mod_eq_of_lt (by omega)
  rw [order_eq _ _ (by unfold nan; rw [hr]; exact decide_eq_false (by omega)) (by decide)]
  have e1 : rank r = r := by unfold rank; rw [hr, Nat.div_eq_of_lt (by omega)]; rfl
  have e2 : rank 0 = 0 := by decide
  rw [e1, e2]
  by_cases g : r = 0
  · rw [Int.compare_eq_eq.2 (by omega)]; rfl
  · rw [Int.compare_eq_gt.2 (by omega)]; rfl
theorem i64_2047 (x : Nat) (h : x < 2048) : bits .and .i64 (x : Int) 2047 = (x : Int) := by
  have hx : x &&& 2047 = x := by rw [show 2047 = 2 ^ 11 - 1 from rfl, Nat.and_two_pow_sub_one_eq_mod]; omega
  show IntKind.i64.wrap ((BitVec.ofInt 64 (x : Int) &&& BitVec.ofInt 64 ((2047 : Nat) : Int)).toNat : Int) = _
  rw [BitVec.toNat_and, BitVec.ofInt_natCast, BitVec.ofInt_natCast, BitVec.toNat_ofNat, BitVec.toNat_ofNat, Nat.mod_eq_of_lt (by omega), Nat.mod_eq_of_lt (by omega), hx, IntKind.wrap_i64]
  omega

set_option maxRecDepth 100000 in
theorem ldexp_zero (k : Int) (w : World) : Calls Tryd.prog 62 #[.float .f64 0, .int .i64 k] w fun e w' => e = .returned (.float .f64 0) ∧ w = w' := by
  have hz : (FloatKind.f64.format.order 0 0 == some Ordering.eq) = true := by decide
  go_enter Tryd.func62, Tryd.ntmps62
  go_wp2
  go_ret
  exact ⟨rfl, rfl⟩

set_option maxRecDepth 100000 in
theorem ldexp_any (fr : Nat) (h0 : 4503599627370496 ≤ fr) (h : fr < 9218868437227405312) (k : Int) (hk1 : -9223372036854775808 ≤ k) (hk2 : k ≤ 9223372036854775807) (w : World) :
    Calls Tryd.prog 62 #[.float .f64 fr, .int .i64 k] w fun e w' => e = .returned (.float .f64 (ldexpF fr k)) ∧ w = w' := by
  have hz := zero_no fr (by omega) (by omega)
  have Hn := Lib.hid (normalize_norm fr h0 h w)
  obtain ⟨E, hE⟩ : ∃ E, E = fr / 4503599627370496 := ⟨_, rfl⟩
  obtain ⟨M, hM⟩ : ∃ M, M = fr % 4503599627370496 := ⟨_, rfl⟩
  have hE2 : E < 2048 := by omega
  have hM2 : M < 4503599627370496 := by omega
  have hE3 : (fr : Int) / 4503599627370496 = (E : Int) := by omega
  have a1 := i64_2047 E hE2
  have a2 := drop_ex fr (by omega)
  rw [← hM] at a2
  have he : ldexpE fr k = wrap64 (k + ((E : Int) - 1023)) := by unfold ldexpE; rw [← hE, show k + (E : Int) - 1023 = k + ((E : Int) - 1023) from by omega]
  have Hf1 := Lib.hid (show wrap64 (k + ((E : Int) - 1023)) < -1075 → ldexpF fr k = 0 from fun g => by
    unfold ldexpF; rw [he, if_pos g])
  have Hf2 := Lib.hid (show 1023 < wrap64 (k + ((E : Int) - 1023)) → ldexpF fr k = 9218868437227405312 from fun g => by
    unfold ldexpF; rw [he, if_neg (by omega), if_pos g])
  have Hf3 := Lib.hid (show -1075 ≤ wrap64 (k + ((E : Int) - 1023)) → wrap64 (k + ((E : Int) - 1023)) < -1022 → ∃ z, ldexpF fr k = z ∧ FloatKind.f64.format.mul 4368491638549381120 (bits .or .u64 (M : Int) ((wrap64 (k + ((E : Int) - 1023)) + 53 + 1023) * 4503599627370496)).toNat = some z from fun g1 g2 => by
    generalize wrap64 (k + ((E : Int) - 1023)) = e at *
    have ho := orI M (e + 53 + 1023) hM2 (by omega) (by omega)
    refine ⟨_, rfl, ?_⟩
    unfold ldexpF
    rw [he, if_neg (by omega), if_neg (by omega), if_pos (by omega), ← hM, ho]
    obtain ⟨z, hz⟩ := mul_fin 4368491638549381120 (M + (e + 53 + 1023).toNat * 4503599627370496) (by decide) (by omega)
    show double.mul _ _ = _
    rw [hz]
    rfl)
  have Hf4 := Lib.hid (show wrap64 (k + ((E : Int) - 1023)) ≤ 1023 → -1022 ≤ wrap64 (k + ((E : Int) - 1023)) → ∃ z, ldexpF fr k = z ∧ FloatKind.f64.format.mul 4607182418800017408 (bits .or .u64 (M : Int) ((wrap64 (k + ((E : Int) - 1023)) + 1023) * 4503599627370496)).toNat = some z from fun g1 g2 => by
    generalize wrap64 (k + ((E : Int) - 1023)) = e at *
    have ho := orI M (e + 1023) hM2 (by omega) (by omega)
    refine ⟨_, rfl, ?_⟩
    unfold ldexpF
    rw [he, if_neg (by omega), if_neg (by omega), if_neg (by omega), ← hM, ho]
    obtain ⟨z, hz⟩ := mul_fin 4607182418800017408 (M + (e + 1023).toNat * 4503599627370496) (by decide) (by omega)
    show double.mul _ _ = _
    rw [hz]
    rfl)
  have hlt := neg_no fr (by omega)
  clear hE hM he
  go_enter Tryd.func62, Tryd.ntmps62
  go_wp2_with (first
    | (go_at_call 32; refine (isInf_no fr (by omega) _).mono ?_; rintro e w' ⟨rfl, rfl⟩)
    | (go_at_call 30; refine (isNaN_no fr (by omega) _).mono ?_; rintro e w' ⟨rfl, rfl⟩)
    | (go_at_call 80; refine Hn.out.mono ?_; rintro e w' ⟨rfl, rfl⟩))
  · have g1 : wrap64 (k + ((E : Int) - 1023)) < -1075 := by assumption
    refine (copysign_any 0 fr (by omega) (by omega) _).mono ?_
    rintro e w' ⟨rfl, rfl⟩
    go_wp2
    go_ret
    refine ⟨ret_float ?_, rfl⟩
    show copysign 0 fr = _
    rw [Hf1.out g1]
    unfold copysign
    omega
  · have g2 : 1023 < wrap64 (k + ((E : Int) - 1023)) := by assumption
    refine (inf_pos _).mono ?_
    rintro e w' ⟨rfl, rfl⟩
    go_wp2
    go_ret
    exact ⟨ret_float (Hf2.out g2).symm, rfl⟩
  · have g1 : -1075 ≤ wrap64 (k + ((E : Int) - 1023)) := by assumption
    have g3 : wrap64 (k + ((E : Int) - 1023)) < -1022 := by assumption
    obtain ⟨z, hz1, hz2⟩ := Hf3.out g1 g3
    rw [fmul hz2]
    have Hz := Lib.hid hz1
    clear hz1 hz2
    go_simp
    go_wp2
    go_ret
    exact ⟨ret_float Hz.out.symm, rfl⟩
  · have g2 : wrap64 (k + ((E : Int) - 1023)) ≤ 1023 := by assumption
    have g3 : -1022 ≤ wrap64 (k + ((E : Int) - 1023)) := by assumption
    obtain ⟨z, hz1, hz2⟩ := Hf4.out g2 g3
    rw [fmul hz2]
    have Hz := Lib.hid hz1
    clear hz1 hz2
    go_simp
    go_wp2
    go_ret
    exact ⟨ret_float Hz.out.symm, rfl⟩

end Flo
end Go.Proofs.YtpcdncopdihcpaaDoor
