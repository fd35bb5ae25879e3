/- The walks of Text, the program's and the document's. -/
import Derived.Test.YtpcdncopdihcpaaDoorCostW
import Derived.Laws.Concat
namespace Go.Proofs.YtpcdncopdihcpaaDoor
open Go.RowKit
namespace Flo
open Ieee
attribute [local go_sem] fbits ffrom

def textL (b : Nat) : List UInt8 :=
  if nan b then [] else
  (if minus b then [45] else []) ++
  (if b % 9223372036854775808 = 9218868437227405312 then [105, 110, 102] else if b % 9223372036854775808 = 0 then [48] else
    Lib.decDigits (odd (b % 9223372036854775808)) ++ 112 :: Lib.itoa (power (b % 9223372036854775808)))

theorem ret_str {a : ByteArray} {l : List UInt8} (h : a.data.toList = l) : Ending.returned (.string a) = Ending.returned (.string ⟨l.toArray⟩) := by
  subst h
  cases a
  rfl
theorem dec_len (u : Nat) (h : u < 18446744073709551616) : (Lib.decDigits u).length ≤ 20 := by
  rw [Lib.decDigits_length]
  by_cases h0 : u = 0
  · subst h0; decide +kernel
  · have := Lib.numDigits_eq u (by omega) h
    split at this <;> omega
theorem itoa_len (n : Int) (h0 : -9223372036854775808 ≤ n) (h1 : n ≤ 9223372036854775807) : (Lib.itoa n).length ≤ 21 := by
  by_cases h : n < 0
  · obtain ⟨u, rfl⟩ : ∃ u : Nat, n = -(u : Int) := ⟨n.natAbs, by omega⟩
    rw [Lib.itoa_neg u (by omega), List.length_cons]
    have := dec_len u (by omega)
    omega
  · obtain ⟨u, rfl⟩ : ∃ u : Nat, n = u := ⟨n.toNat, by omega⟩
    rw [Lib.itoa_nonneg]
    have := dec_len u (by omega)
    omega

set_option maxHeartbeats 1000000 in
set_option maxRecDepth 100000 in
theorem Text_fin (b : Nat) (hb : b < 18446744073709551616) (r : Nat) (hr : b % 9223372036854775808 = r) (h0 : 0 < r) (h1 : r < 9218868437227405312) (w : World) (E : Env w) :
    Calls Tryd.prog 14 #[.float .f64 b] w fun e w' => e = .returned (.string ⟨(textL b).toArray⟩) ∧ Below w.heap.size w w' := by
  have hn : nan b = false := decide_eq_false (by omega)
  have hz := zero_iff b hn
  rw [hr, decide_eq_false (by omega)] at hz
  have hp := Parts_fin b hb r hr h0 h1 w E
  have ho : odd r < 18446744073709551616 := by
    have h2 := (nsig_ge h0).2
    have : odd r ≤ nsig r := Nat.div_le_self _ _
    omega
  have hpw : -9223372036854775808 ≤ power r ∧ power r ≤ 9223372036854775807 := by
    have h3 := (odd_eq h0).2.2
    unfold power nexp
    split
    · have := (subnorm_q h0 (by assumption)).1
      omega
    · omega
  have HT := Lib.hid (show textL b = (if minus b then [45] else []) ++ (Lib.decDigits (odd r) ++ 112 :: Lib.itoa (power r)) from by
    unfold textL
    rw [hn, hr, if_neg (by omega : ¬ r = 9218868437227405312), if_neg (by omega : ¬ r = 0)]
    rfl)
  have H1 := Lib.hid (isNaN_eq b false hn w)
  have H2 := Lib.hid hp
  have HE := Lib.hid E
  have H3 := Lib.hid (show ∀ w, Calls Tryd.prog 32 #[.float .f64 b, .int .i64 0] w fun e w' => e = .returned (.bool false) ∧ w = w' from fun w => isInf_eq b hb false (by rw [hr]; exact decide_eq_false (by omega)) w)
  have H4 := Lib.hid (show ∀ w, Env w → Calls Tryd.prog 46 #[.int .u64 (odd r : Int), .int .i64 10] w fun e w' => e = .returned (.string ⟨(Lib.decDigits (odd r)).toArray⟩) ∧ Below w.heap.size w w' from fun w E => FormatUint_any _ ho w E)
  have H5 := Lib.hid (show ∀ w, Env w → Calls Tryd.prog 47 #[.int .i64 (power r)] w fun e w' => e = .returned (.string ⟨(Lib.itoa (power r)).toArray⟩) ∧ Below w.heap.size w w' from fun w E => Itoa_any _ hpw.1 hpw.2 w E)
  have L1 := dec_len _ ho
  have L2 := itoa_len _ hpw.1 hpw.2
  clear hn hr hp E h0 h1 ho hpw
  generalize odd r = o at *
  generalize power r = p at *
  generalize minus b = m at *
  cases m with
  | true =>
    go_enter Tryd.func14, Tryd.ntmps14
    go_wp2_with (first
      | (go_at_call 30; refine H1.out.mono ?_; rintro e w' ⟨rfl, rfl⟩))
    go_at_call 10
    refine H2.out.mono ?_
    rintro e w1 ⟨rfl, hb1⟩
    unfold partsV
    go_wp2_with (first
      | (go_at_call 32; refine (H3.out _).mono ?_; rintro e w' ⟨rfl, rfl⟩))
    go_at_call 46
    refine (H4.out _ (HE.out.below hb1)).mono ?_
    rintro e w2 ⟨rfl, hb2⟩
    go_wp2_with fail
    refine (H5.out _ ((HE.out.below hb1).below hb2)).mono ?_
    rintro e w3 ⟨rfl, hb3⟩
    go_wp2
    go_ret
    refine ⟨?_, below_trans hb1 (below_trans hb2 hb3)⟩
    rw [HT.out]
    exact ret_str (by simp)
  | false =>
    go_enter Tryd.func14, Tryd.ntmps14
    go_wp2_with (first
      | (go_at_call 30; refine H1.out.mono ?_; rintro e w' ⟨rfl, rfl⟩))
    go_at_call 10
    refine H2.out.mono ?_
    rintro e w1 ⟨rfl, hb1⟩
    unfold partsV
    go_wp2_with (first
      | (go_at_call 32; refine (H3.out _).mono ?_; rintro e w' ⟨rfl, rfl⟩))
    go_at_call 46
    refine (H4.out _ (HE.out.below hb1)).mono ?_
    rintro e w2 ⟨rfl, hb2⟩
    go_wp2_with fail
    refine (H5.out _ ((HE.out.below hb1).below hb2)).mono ?_
    rintro e w3 ⟨rfl, hb3⟩
    go_wp2
    go_ret
    refine ⟨?_, below_trans hb1 (below_trans hb2 hb3)⟩
    rw [HT.out]
    exact ret_str (by simp)

set_option maxRecDepth 100000 in
theorem Text_nan (b : Nat) (hn : nan b = true) (w : World) :
    Calls Tryd.prog 14 #[.float .f64 b] w fun e w' => e = .returned (.string ⟨(textL b).toArray⟩) ∧ Below w.heap.size w w' := by
  have HT := Lib.hid (show textL b = [] from by unfold textL; rw [if_pos hn])
  have H1 := Lib.hid (isNaN_eq b true hn w)
  clear hn
  go_enter Tryd.func14, Tryd.ntmps14
  go_wp2_with (first
    | (go_at_call 30; refine H1.out.mono ?_; rintro e w' ⟨rfl, rfl⟩))
  go_ret
  rw [HT.out]
  exact ⟨rfl, Below.refl _ _⟩
set_option maxRecDepth 100000 in
theorem Text_inf (b : Nat) (hb : b < 18446744073709551616) (hr : b % 9223372036854775808 = 9218868437227405312) (w : World) :
    Calls Tryd.prog 14 #[.float .f64 b] w fun e w' => e = .returned (.string ⟨(textL b).toArray⟩) ∧ Below w.heap.size w w' := by
  have hn : nan b = false := decide_eq_false (by omega)
  have HT := Lib.hid (show textL b = (if minus b then [45] else []) ++ [105, 110, 102] from by unfold textL; rw [hn, if_pos hr]; rfl)
  have H1 := Lib.hid (isNaN_eq b false hn w)
  have H2 := Lib.hid (Parts_inf b hb hr w)
  have H3 := Lib.hid (show ∀ w, Calls Tryd.prog 32 #[.float .f64 b, .int .i64 0] w fun e w' => e = .returned (.bool true) ∧ w = w' from fun w => isInf_eq b hb true (decide_eq_true hr) w)
  clear hn hr
  generalize minus b = m at *
  cases m <;>
  · go_enter Tryd.func14, Tryd.ntmps14
    go_wp2_with (first
      | (go_at_call 30; refine H1.out.mono ?_; rintro e w' ⟨rfl, rfl⟩))
    go_at_call 10
    refine H2.out.mono ?_
    rintro e w1 ⟨rfl, hb1⟩
    unfold partsV
    go_wp2_with (first
      | (go_at_call 32; refine (H3.out _).mono ?_; rintro e w' ⟨rfl, rfl⟩))
    go_ret
    refine ⟨?_, hb1⟩
    rw [HT.out]
    exact ret_str (by simp)
set_option maxRecDepth 100000 in
theorem Text_zero (b : Nat) (hb : b < 18446744073709551616) (hr : b % 9223372036854775808 = 0) (w : World) :
    Calls Tryd.prog 14 #[.float .f64 b] w fun e w' => e = .returned (.string ⟨(textL b).toArray⟩) ∧ Below w.heap.size w w' := by
  have hn : nan b = false := decide_eq_false (by omega)
  have hz := zero_iff b hn
  rw [decide_eq_true hr] at hz
  have HT := Lib.hid (show textL b = (if minus b then [45] else []) ++ [48] from by unfold textL; rw [hn, if_neg (by omega : ¬ b % 9223372036854775808 = 9218868437227405312), if_pos hr]; rfl)
  have H1 := Lib.hid (isNaN_eq b false hn w)
  have H2 := Lib.hid (Parts_zero b hb hr w)
  have H3 := Lib.hid (show ∀ w, Calls Tryd.prog 32 #[.float .f64 b, .int .i64 0] w fun e w' => e = .returned (.bool false) ∧ w = w' from fun w => isInf_eq b hb false (decide_eq_false (by omega)) w)
  clear hn hr
  generalize minus b = m at *
  cases m <;>
  · go_enter Tryd.func14, Tryd.ntmps14
    go_wp2_with (first
      | (go_at_call 30; refine H1.out.mono ?_; rintro e w' ⟨rfl, rfl⟩))
    go_at_call 10
    refine H2.out.mono ?_
    rintro e w1 ⟨rfl, hb1⟩
    unfold partsV
    go_wp2_with (first
      | (go_at_call 32; refine (H3.out _).mono ?_; rintro e w' ⟨rfl, rfl⟩))
    go_ret
    refine ⟨?_, hb1⟩
    rw [HT.out]
    exact ret_str (by simp)
theorem Text_any (b : Nat) (hb : b < 18446744073709551616) (w : World) (E : Env w) :
    Calls Tryd.prog 14 #[.float .f64 b] w fun e w' => e = .returned (.string ⟨(textL b).toArray⟩) ∧ Below w.heap.size w w' := by
  cases hn : nan b with
  | true => exact Text_nan b hn w
  | false =>
    have hq := of_decide_eq_false hn
    by_cases h0 : b % 9223372036854775808 = 0
    · exact Text_zero b hb h0 w
    · by_cases h1 : b % 9223372036854775808 = 9218868437227405312
      · exact Text_inf b hb h1 w
      · exact Text_fin b hb _ rfl (by omega) (by omega) w E
end Flo
end Go.Proofs.YtpcdncopdihcpaaDoor
