/- The walk of the law CostBack. -/
import Derived.Test.YtpcdncopdihcpaaDoorCostQ
namespace Go.Proofs.YtpcdncopdihcpaaDoor
open Go.RowKit
namespace Flo
open Ieee
attribute [local go_sem] fbits ffrom

theorem odd_15 : odd 4609434218613702656 = 3 := by decide +kernel
theorem power_15 : power 4609434218613702656 = -((1 : Nat) : Int) := by decide +kernel
theorem odd_8 : odd 4620693217682128896 = 1 := by decide +kernel
theorem power_8 : power 4620693217682128896 = ((3 : Nat) : Int) := by decide +kernel
theorem text_15 : textL 4609434218613702656 = [51, 112, 45, 49] := by
  rw [textL_fin (r := 4609434218613702656) (by omega) (by omega) (by omega), odd_15, power_15, Lib.itoa_neg 1 (by omega), Lib.decDigits_one (show 3 < 10 by omega), Lib.decDigits_one (show 1 < 10 by omega), show minus 4609434218613702656 = false from decide_eq_false (by omega)]
  rfl
theorem text_8 : textL 4620693217682128896 = [49, 112, 51] := by
  rw [textL_fin (r := 4620693217682128896) (by omega) (by omega) (by omega), odd_8, power_8, Lib.itoa_nonneg, Lib.decDigits_one (show 3 < 10 by omega), Lib.decDigits_one (show 1 < 10 by omega), show minus 4620693217682128896 = false from decide_eq_false (by omega)]
  rfl
theorem text_calls (b : Nat) (hb : b < 18446744073709551616) (l : List UInt8) (h : textL b = l) (w : World) (E : Env w) :
    Calls Tryd.prog 14 #[.float .f64 b] w fun e w' => e = .returned (.string ⟨l.toArray⟩) ∧ Below w.heap.size w w' := by
  subst h
  exact Text_any b hb w E

set_option maxRecDepth 100000 in
theorem alive (w : World) (E : Env w) : Calls Tryd.prog 8 #[] w fun e w' => e = .returned (.bool true) ∧ Below w.heap.size w w' := by
  have K1 := Lib.hid (text_calls 4609434218613702656 (by omega) _ text_15 w E)
  have K2 := Lib.hid (fun w E => text_calls 4620693217682128896 (by omega) _ text_8 w E)
  go_enter Tryd.func8, Tryd.ntmps8
  go_wp2_with fail
  refine K1.out.mono ?_
  rintro e w1 ⟨rfl, hb1⟩
  go_wp2_with fail
  refine (K2.out _ (E.below hb1)).mono ?_
  rintro e w2 ⟨rfl, hb2⟩
  go_wp2
  go_ret
  exact ⟨rfl, below_trans hb1 hb2⟩
set_option maxRecDepth 100000 in
theorem same_any (a b : Nat) (w : World) : Calls Tryd.prog 16 #[.float .f64 a, .float .f64 b] w fun e w' => e = .returned (.bool (decide (a = b))) ∧ w = w' := by
  go_enter Tryd.func16, Tryd.ntmps16
  go_wp2
  go_ret
  refine ⟨ret_bool ?_, rfl⟩
  rw [Bool.eq_iff_iff]
  simp only [beq_iff_eq, decide_eq_true_eq]
  omega
theorem same_eq (a b : Nat) (c : Bool) (h : decide (a = b) = c) (w : World) : Calls Tryd.prog 16 #[.float .f64 a, .float .f64 b] w fun e w' => e = .returned (.bool c) ∧ w = w' := by
  subst h
  exact same_any a b w

set_option maxHeartbeats 1000000 in
set_option maxRecDepth 100000 in
theorem back_long (b : Nat) (s : List UInt8) (hs : 300 < s.length) (w : World) (E : Env w) :
    Calls Tryd.prog 4 #[.int .u64 (b : Int), .string ⟨s.toArray⟩] w fun e w' => e = .returned (.bool true) ∧ Below w.heap.size w w' := by
  have K := Lib.hid (alive w E)
  go_enter Tryd.func4, Tryd.ntmps4
  go_wp2_with fail
  refine K.out.mono ?_
  rintro e w1 ⟨rfl, hb1⟩
  go_wp2
  go_ret
  exact ⟨rfl, hb1⟩

set_option maxHeartbeats 2000000 in
set_option maxRecDepth 100000 in
theorem back_walk (b : Nat) (hb : b < 18446744073709551616) (s : List UInt8) (hs : s.length ≤ 300) (w : World) (E : Env w) :
    Calls Tryd.prog 4 #[.int .u64 (b : Int), .string ⟨s.toArray⟩] w fun e w' => e = .returned (.bool true) ∧ Below w.heap.size w w' := by
  have K := Lib.hid (alive w E)
  have hlen : (textL b).length ≤ 1000 := by
    unfold textL
    split
    · simp
    · have : ∀ l : List UInt8, l.length ≤ 900 → ((if minus b then ([45] : List UInt8) else []) ++ l).length ≤ 1000 := fun l h => by
        rw [List.length_append]; split <;> simp <;> omega
      refine this _ ?_
      split
      · simp
      · split
        · simp
        · rename_i hn h1 h0
          have hq := of_decide_eq_false (show nan b = false by simpa using hn)
          have hp := power_range (r := b % 9223372036854775808) (by omega) (by omega)
          have l1 := dec_len (odd (b % 9223372036854775808)) (by
            have h2 := (nsig_ge (r := b % 9223372036854775808) (by omega)).2
            have : odd (b % 9223372036854775808) ≤ nsig (b % 9223372036854775808) := Nat.div_le_self _ _
            omega)
          have l2 := itoa_len (power (b % 9223372036854775808)) (by omega) (by omega)
          simp only [List.length_append, List.length_cons]
          omega
  have K1 := Lib.hid (fun w E => Text_any b hb w E)
  have K2 := Lib.hid (fun w E => Parse_walk (textL b) hlen w E)
  have K3 := Lib.hid (fun w E => Parse_walk s (by omega) w E)
  have K0 := Lib.hid (same_eq 0 0 true rfl)
  clear hlen
  have hself : (FloatKind.f64.format.order b b == some Ordering.eq) = !(nan b) := by
    show (double.order b b == some Ordering.eq) = !(nan b)
    have h := ne_self b
    cases hn : nan b with
    | true => rw [hn] at h; simpa [bne] using h
    | false => rw [hn] at h; simpa [bne] using h
  have fin : ∀ (g : Nat) (ok : Bool), parseI (textL b) = (g, ok) → ok = (!(nan b)) ∧ (ok = true → decide (b = g) = true) := fun g ok h => by
    cases hn : nan b with
    | true => rw [textL_nan b hn, parseI_nil] at h; injection h with h1 h2; subst h2; exact ⟨rfl, fun h => by cases h⟩
    | false => rw [parseI_text b hb hn] at h; injection h with h1 h2; subst h1 h2; exact ⟨rfl, fun _ => decide_eq_true rfl⟩
  have fin2 := parseI_cases s
  obtain ⟨g, ok, hg⟩ : ∃ g ok, parseI (textL b) = (g, ok) := ⟨_, _, rfl⟩
  obtain ⟨fok, fg⟩ := fin g ok hg
  clear fin
  have G := Lib.hid hg
  clear hg
  rw [← fok] at hself
  clear fok
  have G2 := Lib.hid fin2
  clear fin2
  cases ok with
  | false =>
    clear fg
    go_enter Tryd.func4, Tryd.ntmps4
    go_wp2_with fail
    refine K.out.mono ?_
    rintro e w1 ⟨rfl, hb1⟩
    go_wp2_with fail
    refine (K1.out _ (E.below hb1)).mono ?_
    rintro e w2 ⟨rfl, hb2⟩
    go_wp2_with fail
    refine (K2.out _ ((E.below hb1).below hb2)).mono ?_
    rintro e w3 ⟨he, hb3⟩
    rw [G.out] at he
    subst he
    go_wp2_with fail
    refine (K3.out _ (((E.below hb1).below hb2).below hb3)).mono ?_
    rintro e w4 ⟨he, hb4⟩
    have hbb := below_trans hb1 (below_trans hb2 (below_trans hb3 hb4))
    have HB := Lib.hid hbb
    have E4 := Lib.hid (E.below hbb)
    clear hbb
    rcases G2.out with ⟨h0, _⟩ | ⟨c, hc, hcn, hct, h0⟩
    · rw [h0] at he
      subst he
      clear h0
      go_wp2_with fail
      refine (K0.out _).mono ?_
      rintro e w' ⟨rfl, rfl⟩
      go_wp2
      go_ret
      exact ⟨rfl, HB.out⟩
    · rw [h0] at he
      subst he
      have T := Lib.hid (text_calls c hc s hct _ E4.out)
      clear h0 hc hcn hct
      go_wp2_with fail
      refine T.out.mono ?_
      rintro e w5 ⟨rfl, hb5⟩
      go_wp2
      go_ret
      exact ⟨rfl, below_trans HB.out hb5⟩
  | true =>
    have S := Lib.hid (same_eq b g true (fg rfl))
    clear fg
    go_enter Tryd.func4, Tryd.ntmps4
    go_wp2_with fail
    refine K.out.mono ?_
    rintro e w1 ⟨rfl, hb1⟩
    go_wp2_with fail
    refine (K1.out _ (E.below hb1)).mono ?_
    rintro e w2 ⟨rfl, hb2⟩
    go_wp2_with fail
    refine (K2.out _ ((E.below hb1).below hb2)).mono ?_
    rintro e w3 ⟨he, hb3⟩
    rw [G.out] at he
    subst he
    go_wp2_with fail
    refine (S.out _).mono ?_
    rintro e w' ⟨rfl, rfl⟩
    go_wp2_with fail
    refine (K3.out _ (((E.below hb1).below hb2).below hb3)).mono ?_
    rintro e w4 ⟨he, hb4⟩
    have hbb := below_trans hb1 (below_trans hb2 (below_trans hb3 hb4))
    have HB := Lib.hid hbb
    have E4 := Lib.hid (E.below hbb)
    clear hbb
    rcases G2.out with ⟨h0, _⟩ | ⟨c, hc, hcn, hct, h0⟩
    · rw [h0] at he
      subst he
      clear h0
      go_wp2_with fail
      refine (K0.out _).mono ?_
      rintro e w' ⟨rfl, rfl⟩
      go_wp2
      go_ret
      exact ⟨rfl, HB.out⟩
    · rw [h0] at he
      subst he
      have T := Lib.hid (text_calls c hc s hct _ E4.out)
      clear h0 hc hcn hct
      go_wp2_with fail
      refine T.out.mono ?_
      rintro e w5 ⟨rfl, hb5⟩
      go_wp2
      go_ret
      exact ⟨rfl, below_trans HB.out hb5⟩

theorem back_any (b : Nat) (hb : b < 18446744073709551616) (s : List UInt8) (w : World) (E : Env w) :
    Calls Tryd.prog 4 #[.int .u64 (b : Int), .string ⟨s.toArray⟩] w fun e w' => e = .returned (.bool true) ∧ Below w.heap.size w w' := by
  by_cases hs : s.length ≤ 300
  · exact back_walk b hb s hs w E
  · exact back_long b s (by omega) w E
end Flo
end Go.Proofs.YtpcdncopdihcpaaDoor
