/- The walks of the cost layer: Parts and Text, the program's and the document's. -/
import Derived.Test.YtpcdncopdihcpaaDoorCostP
import Derived.BigQuiet
import Derived.Deep.QuietTactic
import Derived.OwnWalk
namespace Go.Proofs.YtpcdncopdihcpaaDoor
open Go.RowKit
namespace Flo
open Ieee
attribute [local go_sem] fbits ffrom

def minus (b : Nat) : Bool := decide (9223372036854775808 ≤ b)
def parts (b : Nat) : Bool × Nat × Int :=
  if nan b then (false, 0, 0) else if b % 9223372036854775808 = 0 ∨ b % 9223372036854775808 = 9218868437227405312 then (minus b, 0, 0)
  else (minus b, odd (b % 9223372036854775808), power (b % 9223372036854775808))
def partsV (p : Bool × Nat × Int) : Value := .tuple #[.bool p.1, .int .u64 (p.2.1 : Int), .int .i64 p.2.2]

theorem zero_iff (b : Nat) (h : nan b = false) : (FloatKind.f64.format.order b 0 == some Ordering.eq) = decide (b % 9223372036854775808 = 0) := by
  show (double.order b 0 == some Ordering.eq) = _
  rw [order_eq b 0 h (by decide)]
  have e2 : rank 0 = 0 := by decide
  rw [e2]
  by_cases g : b % 9223372036854775808 = 0
  · rw [decide_eq_true g, Int.compare_eq_eq.2 (by unfold rank; rw [g]; split <;> rfl)]; rfl
  · rw [decide_eq_false g]
    have : rank b ≠ 0 := by unfold rank; split <;> omega
    rcases Int.lt_trichotomy (rank b) 0 with c | c | c
    · rw [Int.compare_eq_lt.2 c]; rfl
    · exact absurd c this
    · rw [Int.compare_eq_gt.2 c]; rfl
theorem isInf_eq (b : Nat) (hb : b < 18446744073709551616) (c : Bool) (h : decide (b % 9223372036854775808 = 9218868437227405312) = c) (w : World) : Calls Tryd.prog 32 #[.float .f64 b, .int .i64 0] w fun e w' => e = .returned (.bool c) ∧ w = w' := by
  subst h
  exact isInf_any b hb w
theorem isNaN_eq (b : Nat) (c : Bool) (h : nan b = c) (w : World) : Calls Tryd.prog 30 #[.float .f64 b] w fun e w' => e = .returned (.bool c) ∧ w = w' := by
  subst h
  exact isNaN_any b w
theorem signbit_eq (b : Nat) (hb : b < 18446744073709551616) (w : World) : Calls Tryd.prog 31 #[.float .f64 b] w fun e w' => e = .returned (.bool (minus b)) ∧ w = w' := signbit_any b hb w
theorem abs_eq (b r : Nat) (hb : b < 18446744073709551616) (h : b % 9223372036854775808 = r) (w : World) : Calls Tryd.prog 34 #[.float .f64 b] w fun e w' => e = .returned (.float .f64 r) ∧ w = w' := by
  subst h
  exact abs_any b hb w

theorem isInf_calls {P : Program} {f : FuncId} {args : Array Value} {w : World} {v : Value} (h : Calls P f args w fun e w' => e = .returned v ∧ w = w') : Calls P f args w fun e w' => e = .returned v ∧ Below w.heap.size w w' :=
  h.mono fun _ _ ⟨he, hw⟩ => ⟨he, hw ▸ Below.refl _ _⟩

set_option maxRecDepth 100000 in
theorem Ldexp_any (fr : Nat) (h0 : 4503599627370496 ≤ fr) (h : fr < 9218868437227405312) (k : Int) (hk1 : -9223372036854775808 ≤ k) (hk2 : k ≤ 9223372036854775807) (w : World) :
    Calls Tryd.prog 35 #[.float .f64 fr, .int .i64 k] w fun e w' => e = .returned (.float .f64 (ldexpF fr k)) ∧ w = w' := by
  go_enter Tryd.func35, Tryd.ntmps35
  go_wp2_with (go_at_call 62; refine (ldexp_any fr h0 h k hk1 hk2 _).mono ?_; rintro e w' ⟨rfl, rfl⟩)
  go_ret
  exact ⟨rfl, rfl⟩
set_option maxRecDepth 100000 in
theorem Ldexp_zero (k : Int) (w : World) : Calls Tryd.prog 35 #[.float .f64 0, .int .i64 k] w fun e w' => e = .returned (.float .f64 0) ∧ w = w' := by
  go_enter Tryd.func35, Tryd.ntmps35
  go_wp2_with (go_at_call 62; refine (ldexp_zero k _).mono ?_; rintro e w' ⟨rfl, rfl⟩)
  go_ret
  exact ⟨rfl, rfl⟩
theorem Ldexp_53 (r : Nat) (h0 : 0 < r) (w : World) :
    Calls Tryd.prog 35 #[.float .f64 (4598175219545276416 + nsig r), .int .i64 53] w fun e w' => e = .returned (.float .f64 (4836865999795912704 + nsig r)) ∧ w = w' := by
  obtain ⟨h1, h2⟩ := nsig_ge h0
  have h := Ldexp_any (4598175219545276416 + nsig r) (by omega) (by omega) 53 (by omega) (by omega) w
  rw [ldexp_53 r h0] at h
  exact h

theorem to_uint (q : Nat) (h1 : 4503599627370496 ≤ q) (h2 : q < 9007199254740992) (w : World) :
    (convert 24 22 (.float .f64 (4836865999795912704 + q))).run Tryd.prog w = .ok (.int .u64 (q : Int)) w := by
  have hm : (4836865999795912704 + q) % 9223372036854775808 = 4836865999795912704 + q := Nat.mod_eq_of_lt (by omega)
  have e1 := read_fin (4836865999795912704 + q) (by rw [hm]; omega)
  rw [hm, Nat.div_eq_of_lt (show 4836865999795912704 + q < 9223372036854775808 by omega)] at e1
  have hs : sig (4836865999795912704 + q) = q := by unfold sig; rw [if_neg (by omega)]; omega
  have hx : ex (4836865999795912704 + q) = 1074 := by unfold ex; omega
  rw [hs, hx] at e1
  have hd : FloatKind.f64.decode (4836865999795912704 + q) = .number false q 0 := e1
  have ht : (FloatKind.f64.decode (4836865999795912704 + q)).toInt .zero = some (q : Int) := by
    rw [hd]
    show some (signed false (Toward.zero.cut false (q <<< 0) 0) 0) = _
    have : Toward.zero.cut false (q <<< 0) 0 = q := by unfold Toward.cut; simp
    rw [this]
    show some (((q <<< 0 : Nat) : Int)) = _
    rw [Nat.shiftLeft_zero]
  have hb : IntKind.u64.min ≤ (q : Int) ∧ (q : Int) ≤ IntKind.u64.max := by
    have e1 : IntKind.u64.min = 0 := by decide
    have e2 : IntKind.u64.max = 18446744073709551615 := by decide
    rw [e1, e2]
    omega
  have hf : Conv.floatToInt .f64 (4836865999795912704 + q) .u64 = pure (.int .u64 (q : Int)) := by
    unfold Conv.floatToInt
    rw [ht]
    simp only [hb, and_self, if_true]
  simp only [convert]
  simp [run_underlying Tryd.underlying24, run_underlying Tryd.underlying22, hf]

set_option maxHeartbeats 1000000 in
set_option maxRecDepth 100000 in
theorem Parts_fin (b : Nat) (hb : b < 18446744073709551616) (r : Nat) (hr : b % 9223372036854775808 = r) (h0 : 0 < r) (h1 : r < 9218868437227405312) (w : World) (E : Env w) :
    Calls Tryd.prog 10 #[.float .f64 b] w fun e w' => e = .returned (partsV (minus b, odd r, power r)) ∧ Below w.heap.size w w' := by
  obtain ⟨g1, g2⟩ := nsig_ge h0
  obtain ⟨o1, o2, o3⟩ := odd_eq h0
  have hn : nan b = false := decide_eq_false (by omega)
  have hz := zero_iff b hn
  rw [hr, decide_eq_false (by omega)] at hz
  have H1 := Lib.hid (isNaN_eq b false hn w)
  have H2 := Lib.hid (signbit_eq b hb w)
  have H3 := Lib.hid (isInf_eq b hb false (by rw [hr]; exact decide_eq_false (by omega)) w)
  have H4 := Lib.hid (abs_eq b r hb hr w)
  have H5 := Lib.hid (Frexp_any r h0 h1 w)
  have H6 := Lib.hid (Ldexp_53 r h0 w)
  have H7 := Lib.hid (tz64_any (nsig r) (by omega) (by omega) w E)
  have hc := to_uint (nsig r) g1 g2
  have hp : power r = nexp r - 52 - 1 + (Lib.ctz 64 (nsig r) : Int) := by unfold power tzs; omega
  have ho : odd r = nsig r / 2 ^ Lib.ctz 64 (nsig r) := rfl
  have ht : Lib.ctz 64 (nsig r) ≤ 52 := o3
  have hx : -1073 ≤ nexp r ∧ nexp r ≤ 1024 := by
    unfold nexp
    split
    · have := (subnorm_q h0 (by assumption)).1
      omega
    · omega
  obtain ⟨x1, x2⟩ := hx
  generalize Lib.ctz 64 (nsig r) = t at *
  generalize nsig r = q at *
  generalize nexp r = x at *
  have Hp := Lib.hid hp
  have Ho := Lib.hid ho
  clear hp ho o1 o2 o3 hr hn E
  go_enter Tryd.func10, Tryd.ntmps10
  go_wp2_with (first
    | (go_at_call 30; refine H1.out.mono ?_; rintro e w' ⟨rfl, rfl⟩)
    | (go_at_call 31; refine H2.out.mono ?_; rintro e w' ⟨rfl, rfl⟩)
    | (go_at_call 32; refine H3.out.mono ?_; rintro e w' ⟨rfl, rfl⟩)
    | (go_at_call 34; refine H4.out.mono ?_; rintro e w' ⟨rfl, rfl⟩)
    | (go_at_call 33; refine H5.out.mono ?_; rintro e w' ⟨rfl, rfl⟩)
    | (go_at_call 35; refine H6.out.mono ?_; rintro e w' ⟨rfl, rfl⟩)
    | (go_at_call 36; refine H7.out.mono ?_; rintro e w' ⟨rfl, rfl⟩))
  go_quiet (fail)
  go_wp2
  go_ret3
  refine ⟨?_, below_drewN' _ _⟩
  show Ending.returned (.tuple #[.bool (minus b), .int .u64 ((q : Int) / 2 ^ t), .int .i64 (x - 52 - 1 + t)]) = _
  unfold partsV
  rw [Ho.out, Hp.out]
  simp

set_option maxRecDepth 100000 in
theorem Parts_nan (b : Nat) (hn : nan b = true) (w : World) :
    Calls Tryd.prog 10 #[.float .f64 b] w fun e w' => e = .returned (partsV (false, 0, 0)) ∧ Below w.heap.size w w' := by
  have H1 := Lib.hid (isNaN_eq b true hn w)
  clear hn
  go_enter Tryd.func10, Tryd.ntmps10
  go_wp2_with (first
    | (go_at_call 30; refine H1.out.mono ?_; rintro e w' ⟨rfl, rfl⟩))
  go_ret3
  exact ⟨rfl, Below.refl _ _⟩
set_option maxRecDepth 100000 in
theorem Parts_zero (b : Nat) (hb : b < 18446744073709551616) (hr : b % 9223372036854775808 = 0) (w : World) :
    Calls Tryd.prog 10 #[.float .f64 b] w fun e w' => e = .returned (partsV (minus b, 0, 0)) ∧ Below w.heap.size w w' := by
  have hn : nan b = false := decide_eq_false (by omega)
  have hz := zero_iff b hn
  rw [decide_eq_true hr] at hz
  have H1 := Lib.hid (isNaN_eq b false hn w)
  have H2 := Lib.hid (signbit_eq b hb w)
  clear hn hr
  go_enter Tryd.func10, Tryd.ntmps10
  go_wp2_with (first
    | (go_at_call 30; refine H1.out.mono ?_; rintro e w' ⟨rfl, rfl⟩)
    | (go_at_call 31; refine H2.out.mono ?_; rintro e w' ⟨rfl, rfl⟩))
  go_ret3
  exact ⟨rfl, Below.refl _ _⟩
set_option maxRecDepth 100000 in
theorem Parts_inf (b : Nat) (hb : b < 18446744073709551616) (hr : b % 9223372036854775808 = 9218868437227405312) (w : World) :
    Calls Tryd.prog 10 #[.float .f64 b] w fun e w' => e = .returned (partsV (minus b, 0, 0)) ∧ Below w.heap.size w w' := by
  have hn : nan b = false := decide_eq_false (by omega)
  have hz := zero_iff b hn
  rw [decide_eq_false (by omega)] at hz
  have H1 := Lib.hid (isNaN_eq b false hn w)
  have H2 := Lib.hid (signbit_eq b hb w)
  have H3 := Lib.hid (isInf_eq b hb true (decide_eq_true hr) w)
  clear hn hr
  go_enter Tryd.func10, Tryd.ntmps10
  go_wp2_with (first
    | (go_at_call 30; refine H1.out.mono ?_; rintro e w' ⟨rfl, rfl⟩)
    | (go_at_call 32; refine H3.out.mono ?_; rintro e w' ⟨rfl, rfl⟩)
    | (go_at_call 31; refine H2.out.mono ?_; rintro e w' ⟨rfl, rfl⟩))
  go_ret3
  exact ⟨rfl, Below.refl _ _⟩

theorem Parts_any (b : Nat) (hb : b < 18446744073709551616) (w : World) (E : Env w) :
    Calls Tryd.prog 10 #[.float .f64 b] w fun e w' => e = .returned (partsV (parts b)) ∧ Below w.heap.size w w' := by
  unfold parts
  cases hn : nan b with
  | true => exact Parts_nan b hn w
  | false =>
    have hq := of_decide_eq_false hn
    simp only [Bool.false_eq_true, if_false]
    by_cases h0 : b % 9223372036854775808 = 0
    · rw [if_pos (.inl h0)]; exact Parts_zero b hb h0 w
    · by_cases h1 : b % 9223372036854775808 = 9218868437227405312
      · rw [if_pos (.inr h1)]; exact Parts_inf b hb h1 w
      · rw [if_neg (by omega)]
        exact Parts_fin b hb _ rfl (by omega) (by omega) w E

/-! the document's parts -/
def sig0 (r : Nat) : Nat := if r < 4503599627370496 then r else 4503599627370496 + r % 4503599627370496
def pow0 (r : Nat) : Int := if r < 4503599627370496 then -1074 else ((r / 4503599627370496 : Nat) : Int) - 1075
theorem strip (r : Nat) (h0 : 0 < r) : ∃ s : Nat, sig0 r = odd r * 2 ^ s ∧ pow0 r + s = power r ∧ s ≤ 52 := by
  obtain ⟨o1, o2, o3⟩ := odd_eq h0
  by_cases h : r < 4503599627370496
  · have hL := (subnorm_q h0 h).1
    have e1 : nsig r = r * 2 ^ (52 - r.log2) := by unfold nsig; rw [if_pos h]
    have e2 : sig0 r = r := by unfold sig0; rw [if_pos h]
    have e3 : pow0 r = -1074 := by unfold pow0; rw [if_pos h]
    have e4 : power r = (r.log2 : Int) - 1126 + tzs r := by unfold power nexp; rw [if_pos h]; omega
    have hk : 52 - r.log2 ≤ tzs r := by
      rcases Nat.lt_or_ge (tzs r) (52 - r.log2) with hlt | hge
      · exfalso
        obtain ⟨d, hd⟩ : ∃ d, 52 - r.log2 = tzs r + (d + 1) := ⟨52 - r.log2 - tzs r - 1, by omega⟩
        rw [e1, hd, Nat.pow_add, ← Nat.mul_assoc, Nat.mul_right_comm] at o1
        have h2 := Nat.eq_of_mul_eq_mul_right (Nat.two_pow_pos _) o1
        rw [Nat.pow_succ, ← Nat.mul_assoc] at h2
        omega
      · exact hge
    refine ⟨tzs r - (52 - r.log2), ?_, by omega, by omega⟩
    rw [e2]
    have : r * 2 ^ (52 - r.log2) = (odd r * 2 ^ (tzs r - (52 - r.log2))) * 2 ^ (52 - r.log2) := by
      rw [Nat.mul_assoc, ← Nat.pow_add, Nat.sub_add_cancel hk, ← o1, e1]
    exact Nat.eq_of_mul_eq_mul_right (Nat.two_pow_pos _) this
  · have e1 : nsig r = sig0 r := by unfold nsig sig0; rw [if_neg h, if_neg h]
    have e3 : pow0 r = ((r / 4503599627370496 : Nat) : Int) - 1075 := by unfold pow0; rw [if_neg h]
    have e4 : power r = ((r / 4503599627370496 : Nat) : Int) - 1022 - 53 + tzs r := by unfold power nexp; rw [if_neg h]
    exact ⟨tzs r, by rw [← e1]; exact o1, by omega, o3⟩

theorem one_beq (g : Nat) : ((g : Int) == 1) = decide (g = 1) := by
  rw [Bool.eq_iff_iff]
  simp only [beq_iff_eq, decide_eq_true_eq]
  omega

set_option maxHeartbeats 1000000 in
set_option maxRecDepth 100000 in
theorem RParts_fin (b : Nat) (hb : b < 18446744073709551616) (r : Nat) (hr : b % 9223372036854775808 = r) (h0 : 0 < r) (h1 : r < 9218868437227405312) (w : World) :
    Calls Tryd.prog 11 #[.float .f64 b] w fun e w' => e = .returned (partsV (minus b, odd r, power r)) ∧ Below w.heap.size w w' := by
  obtain ⟨s, s1, s2, s3⟩ := strip r h0
  have o2 := (odd_eq h0).2.1
  generalize odd r = o at *
  generalize power r = p at *
  obtain ⟨g, hg⟩ : ∃ g, g = b / 9223372036854775808 := ⟨_, rfl⟩
  obtain ⟨E, hE⟩ : ∃ E, E = r / 4503599627370496 := ⟨_, rfl⟩
  obtain ⟨M, hM⟩ : ∃ M, M = b % 4503599627370496 := ⟨_, rfl⟩
  have f1 : (b : Int) / 9223372036854775808 = (g : Int) := by omega
  have f3 : (b : Int) / 4503599627370496 % 2048 = (E : Int) := by omega
  have f4 : (b : Int) % 4503599627370496 = (M : Int) := by omega
  have hmin : minus b = decide (g = 1) := decide_eq_decide.2 (by omega)
  have hE2 : E < 2047 := by omega
  have hM2 : M < 4503599627370496 := by omega
  have hs0 : sig0 r = if E = 0 then M else 4503599627370496 + M := by unfold sig0; split <;> split <;> omega
  have hp0 : pow0 r = if E = 0 then -1074 else (E : Int) - 1075 := by unfold pow0; split <;> split <;> omega
  rw [hs0] at s1
  rw [hp0] at s2
  rw [hmin]
  have hEM : E = 0 → M ≠ 0 := by omega
  clear hs0 hp0 hmin hg hE hM hr h0 h1
  have F5 := Lib.hid hEM
  clear hEM
  by_cases hE0 : E = 0
  · subst hE0
    have hM0 : ((M : Int) == 0) = false := by
      have := F5.out rfl
      simp only [beq_eq_false_iff_ne, ne_eq]
      omega
    rw [if_pos rfl] at s1 s2
    have F := Lib.hid s1
    have F2 := Lib.hid s2
    clear s1 s2 F5
    go_enter Tryd.func11, Tryd.ntmps11
    go_wp2
    go_loop [8, 9] (fun mv pv => ∃ j m : Nat, j ≤ s ∧ mv = .int .u64 (m : Int) ∧ pv = .int .i64 (-1074 + (j : Int)) ∧ Hid (m = o * 2 ^ (s - j)) ∧ m < 9007199254740992) (fun _ pv => s - (intOf pv + 1074).toNat)
    case atStart => exact ⟨0, M, by omega, congrArg (Value.int .u64) f4, rfl, Lib.hid F.out, by omega⟩
    case round =>
      obtain ⟨j, m, hj, rfl, rfl, hm, hm2⟩ := hrel
      by_cases hlt : j < s
      · have hpow : m = (o * 2 ^ (s - (j + 1))) * 2 := by
          rw [hm.out, Nat.mul_assoc, ← Nat.pow_succ, show (s - (j + 1)).succ = s - j from by omega]
        have hev : ((m : Int) % 2 == 0) = true := by rw [hpow]; simp only [beq_iff_eq]; omega
        have HN := Lib.hid (show m / 2 = o * 2 ^ (s - (j + 1)) from by omega)
        clear hpow hm
        go_wp2
        refine ⟨⟨j + 1, m / 2, by omega, (by congr 1), (by congr 1; omega), HN, by omega⟩, by simp [intOf]; omega⟩
      · have hjs : j = s := by omega
        subst hjs
        have hmo := hm.out
        rw [Nat.sub_self, Nat.pow_zero, Nat.mul_one] at hmo
        have hod : ((m : Int) % 2 == 0) = false := by rw [hmo, beq_eq_false_iff_ne]; omega
        have HO := Lib.hid hmo
        clear hm hmo
        go_wp2
        go_ret3
        refine ⟨?_, Below.refl _ _⟩
        show Ending.returned (.tuple #[.bool ((g : Int) == 1), .int .u64 (m : Int), .int .i64 (-1074 + (j : Int))]) = _
        unfold partsV
        rw [HO.out, ← F2.out, one_beq]
  · rw [if_neg hE0] at s1 s2
    have F := Lib.hid s1
    have F2 := Lib.hid s2
    have hE1 : 0 < E := by omega
    clear s1 s2 F5 hE0
    go_enter Tryd.func11, Tryd.ntmps11
    go_wp2
    go_loop [8, 9] (fun mv pv => ∃ j m : Nat, j ≤ s ∧ mv = .int .u64 (m : Int) ∧ pv = .int .i64 ((E : Int) - 1075 + (j : Int)) ∧ Hid (m = o * 2 ^ (s - j)) ∧ m < 9007199254740992) (fun _ pv => s - (intOf pv - ((E : Int) - 1075)).toNat)
    case atStart =>
      refine ⟨0, 4503599627370496 + M, by omega, ?_, ?_, Lib.hid F.out, by omega⟩
      · congr 1; omega
      · congr 1; omega
    case round =>
      obtain ⟨j, m, hj, rfl, rfl, hm, hm2⟩ := hrel
      by_cases hlt : j < s
      · have hpow : m = (o * 2 ^ (s - (j + 1))) * 2 := by
          rw [hm.out, Nat.mul_assoc, ← Nat.pow_succ, show (s - (j + 1)).succ = s - j from by omega]
        have hev : ((m : Int) % 2 == 0) = true := by rw [hpow]; simp only [beq_iff_eq]; omega
        have HN := Lib.hid (show m / 2 = o * 2 ^ (s - (j + 1)) from by omega)
        clear hpow hm
        go_wp2
        refine ⟨⟨j + 1, m / 2, by omega, (by congr 1), (by congr 1; omega), HN, by omega⟩, by simp [intOf]; omega⟩
      · have hjs : j = s := by omega
        subst hjs
        have hmo := hm.out
        rw [Nat.sub_self, Nat.pow_zero, Nat.mul_one] at hmo
        have hod : ((m : Int) % 2 == 0) = false := by rw [hmo, beq_eq_false_iff_ne]; omega
        have HO := Lib.hid hmo
        clear hm hmo
        go_wp2
        go_ret3
        refine ⟨?_, Below.refl _ _⟩
        show Ending.returned (.tuple #[.bool ((g : Int) == 1), .int .u64 (m : Int), .int .i64 ((E : Int) - 1075 + (j : Int))]) = _
        unfold partsV
        rw [HO.out, ← F2.out, one_beq]

set_option maxRecDepth 100000 in
theorem RParts_nan (b : Nat) (hb : b < 18446744073709551616) (hn : nan b = true) (w : World) :
    Calls Tryd.prog 11 #[.float .f64 b] w fun e w' => e = .returned (partsV (false, 0, 0)) ∧ Below w.heap.size w w' := by
  have hq := of_decide_eq_true hn
  obtain ⟨g, hg⟩ : ∃ g, g = b / 9223372036854775808 := ⟨_, rfl⟩
  obtain ⟨M, hM⟩ : ∃ M, M = b % 4503599627370496 := ⟨_, rfl⟩
  have f1 : (b : Int) / 9223372036854775808 = (g : Int) := by omega
  have f3 : (b : Int) / 4503599627370496 % 2048 = 2047 := by omega
  have f4 : (b : Int) % 4503599627370496 = (M : Int) := by omega
  have hM0 : 0 < M := by omega
  clear hg hM hq hn
  go_enter Tryd.func11, Tryd.ntmps11
  go_wp2
  go_ret3
  exact ⟨rfl, Below.refl _ _⟩
set_option maxRecDepth 100000 in
theorem RParts_edge (b : Nat) (hb : b < 18446744073709551616) (E : Nat) (hr : b % 9223372036854775808 = E * 4503599627370496) (hE : E = 0 ∨ E = 2047) (w : World) :
    Calls Tryd.prog 11 #[.float .f64 b] w fun e w' => e = .returned (partsV (minus b, 0, 0)) ∧ Below w.heap.size w w' := by
  obtain ⟨g, hg⟩ : ∃ g, g = b / 9223372036854775808 := ⟨_, rfl⟩
  have f1 : (b : Int) / 9223372036854775808 = (g : Int) := by omega
  have f3 : (b : Int) / 4503599627370496 % 2048 = (E : Int) := by omega
  have f4 : (b : Int) % 4503599627370496 = 0 := by omega
  have hmin : minus b = ((g : Int) == 1) := by rw [one_beq]; exact decide_eq_decide.2 (by omega)
  rw [hmin]
  clear hg hr hmin
  rcases hE with rfl | rfl
  · go_enter Tryd.func11, Tryd.ntmps11
    go_wp2
    go_ret3
    exact ⟨rfl, Below.refl _ _⟩
  · go_enter Tryd.func11, Tryd.ntmps11
    go_wp2
    go_ret3
    exact ⟨rfl, Below.refl _ _⟩

theorem RParts_any (b : Nat) (hb : b < 18446744073709551616) (w : World) :
    Calls Tryd.prog 11 #[.float .f64 b] w fun e w' => e = .returned (partsV (parts b)) ∧ Below w.heap.size w w' := by
  unfold parts
  cases hn : nan b with
  | true => exact RParts_nan b hb hn w
  | false =>
    have hq := of_decide_eq_false hn
    simp only [Bool.false_eq_true, if_false]
    by_cases h0 : b % 9223372036854775808 = 0
    · rw [if_pos (.inl h0)]; exact RParts_edge b hb 0 (by omega) (.inl rfl) w
    · by_cases h1 : b % 9223372036854775808 = 9218868437227405312
      · rw [if_pos (.inr h1)]; exact RParts_edge b hb 2047 (by omega) (.inr rfl) w
      · rw [if_neg (by omega)]
        exact RParts_fin b hb _ rfl (by omega) (by omega) w
end Flo
end Go.Proofs.YtpcdncopdihcpaaDoor
