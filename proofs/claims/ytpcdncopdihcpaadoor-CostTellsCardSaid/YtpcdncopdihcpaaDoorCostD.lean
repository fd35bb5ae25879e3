/- The walks of the document's digits and of its number of an odd number and a power. -/
import Derived.Test.YtpcdncopdihcpaaDoorCostQ
namespace Go.Proofs.YtpcdncopdihcpaaDoor
open Go.RowKit
namespace Flo
open Ieee
attribute [local go_sem] fbits ffrom

def vl (l : List UInt8) : Nat := l.foldl (fun n c => n * 10 + (c.toNat - 48)) 0
def isDig (c : UInt8) : Bool := decide (48 ≤ c.toNat ∧ c.toNat ≤ 57)
def dgV (s : List UInt8) (most : Nat) : Nat × Bool := if most < s.length then (0, false) else if s.all isDig = true then (vl s, Lib.decDigits (vl s) == s) else (0, false)
theorem vl_snoc (l : List UInt8) (c : UInt8) : vl (l ++ [c]) = vl l * 10 + (c.toNat - 48) := by simp [vl, List.foldl_append]
theorem vl_aux (l : List UInt8) : ∀ a, l.all isDig = true → l.foldl (fun n c => n * 10 + (c.toNat - 48)) a < (a + 1) * 10 ^ l.length := by
  induction l with
  | nil => intro a _; simp
  | cons c l ih =>
    intro a h
    rw [List.all_cons, Bool.and_eq_true] at h
    have h2 : 48 ≤ c.toNat ∧ c.toNat ≤ 57 := by simpa [isDig] using h.1
    rw [List.foldl_cons, List.length_cons, Nat.pow_succ]
    have h3 := ih (a * 10 + (c.toNat - 48)) h.2
    have h4 : (a * 10 + (c.toNat - 48) + 1) * 10 ^ l.length ≤ (a * 10 + 10) * 10 ^ l.length := Nat.mul_le_mul_right _ (by omega)
    have h5 : (a * 10 + 10) * 10 ^ l.length = (a + 1) * (10 ^ l.length * 10) := by rw [show a * 10 + 10 = (a + 1) * 10 from by omega, Nat.mul_assoc, Nat.mul_comm 10]
    omega
theorem vl_lt (l : List UInt8) (h : l.all isDig = true) : vl l < 10 ^ l.length := by
  have := vl_aux l 0 h
  simpa [vl] using this
theorem vl_bound (l : List UInt8) (h : l.all isDig = true) (hl : l.length ≤ 16) : vl l ≤ 10000000000000000 - 1 := by
  have h1 := vl_lt l h
  have h2 : 10 ^ l.length ≤ 10 ^ 16 := Nat.pow_le_pow_right (by omega) hl
  omega
theorem take_snoc (s : List UInt8) (i : Nat) (h : i < s.length) : s.take (i + 1) = s.take i ++ [s[i]'h] := by simp

set_option maxHeartbeats 1000000 in
set_option maxRecDepth 100000 in
theorem digits_long (s : List UInt8) (most : Nat) (hm : most < s.length) (w : World) :
    Calls Tryd.prog 44 #[.string ⟨s.toArray⟩, .int .i64 (most : Int)] w fun e w' => e = .returned (.tuple #[.int .u64 0, .bool false]) ∧ Below w.heap.size w w' := by
  have hz : (⟨s.toArray⟩ : ByteArray).size = s.length := by simp [ByteArray.size]
  go_enter Tryd.func44, Tryd.ntmps44
  go_wp2
  go_ret2
  exact ⟨rfl, Below.refl _ _⟩
theorem first_bad : ∀ (s : List UInt8), s.all isDig = false → ∃ i, ∃ h : i < s.length, (s.take i).all isDig = true ∧ isDig s[i] = false
  | [], h => by cases h
  | c :: s, h => by
    cases hc : isDig c with
    | false => exact ⟨0, by simp, rfl, hc⟩
    | true =>
      rw [List.all_cons, hc, Bool.true_and] at h
      obtain ⟨i, hi, h1, h2⟩ := first_bad s h
      exact ⟨i + 1, by simp; omega, by rw [List.take_succ_cons, List.all_cons, hc, h1]; rfl, h2⟩
theorem byte_at (s : List UInt8) (i : Nat) (h : i < s.length) (h' : i < (⟨s.toArray⟩ : ByteArray).size) : (⟨s.toArray⟩ : ByteArray)[i]'h' = s[i]'h := by
  show s.toArray[i]'_ = _
  simp

set_option maxHeartbeats 1000000 in
set_option maxRecDepth 100000 in
theorem digits_bad (s : List UInt8) (most : Nat) (hm : s.length ≤ most) (hs : most ≤ 16) (i0 : Nat) (hi : i0 < s.length) (hall : (s.take i0).all isDig = true) (hbad : isDig s[i0] = false) (w : World) :
    Calls Tryd.prog 44 #[.string ⟨s.toArray⟩, .int .i64 (most : Int)] w fun e w' => e = .returned (.tuple #[.int .u64 0, .bool false]) ∧ Below w.heap.size w w' := by
  have hz : (⟨s.toArray⟩ : ByteArray).size = s.length := by simp [ByteArray.size]
  have A := Lib.hid hall
  have hb : ¬ (48 ≤ ((⟨s.toArray⟩ : ByteArray)[i0]'(by omega)).toNat ∧ ((⟨s.toArray⟩ : ByteArray)[i0]'(by omega)).toNat ≤ 57) := by
    rw [byte_at s i0 hi]
    simpa [isDig] using hbad
  have HB := Lib.hid hb
  clear hall hbad hb
  go_enter Tryd.func44, Tryd.ntmps44
  go_wp2
  go_loop [6, 7] (fun nv iv => ∃ i n : Nat, i ≤ i0 ∧ nv = .int .u64 (n : Int) ∧ iv = .int .i64 (i : Int) ∧ Hid (n = vl (s.take i)) ∧ n ≤ 9999999999999999) (fun _ iv => i0 - (intOf iv).toNat)
  case atStart => exact ⟨0, 0, by omega, rfl, rfl, Lib.hid rfl, by omega⟩
  case round =>
    obtain ⟨i, n, hle, rfl, rfl, hn, hlt⟩ := hrel
    by_cases hii : i < i0
    · have hsl : i < s.length := by omega
      obtain ⟨c, hc⟩ : ∃ c, c = s[i]'hsl := ⟨_, rfl⟩
      have htk := take_snoc s i hsl
      have h1 : (s.take (i + 1)).all isDig = true := by
        have := A.out
        rw [List.all_eq_true] at this ⊢
        intro x hx
        exact this x ((List.take_subset_take_left s (by omega : i + 1 ≤ i0)) hx)
      have h2 : 48 ≤ ((⟨s.toArray⟩ : ByteArray)[i]'(by omega)).toNat ∧ ((⟨s.toArray⟩ : ByteArray)[i]'(by omega)).toNat ≤ 57 := by
        rw [byte_at s i hsl, ← hc]
        rw [htk, List.all_append, Bool.and_eq_true] at h1
        rw [hc]
        simpa [isDig] using h1.2
      have HV := Lib.hid (show n * 10 + ((⟨s.toArray⟩ : ByteArray)[i]'(by omega)).toNat - 48 = vl (s.take (i + 1)) from by
        rw [htk, vl_snoc, ← hn.out, ← byte_at s i hsl (by omega)]
        omega)
      have HL := vl_bound _ h1 (by rw [List.length_take]; omega)
      rw [← HV.out] at HL
      obtain ⟨m, hm'⟩ : ∃ m, m = n * 10 + ((⟨s.toArray⟩ : ByteArray)[i]'(by omega)).toNat - 48 := ⟨_, rfl⟩
      rw [← hm'] at HV HL
      have HM := Lib.hid hm'
      clear hm'
      clear hc htk h1 hn
      obtain ⟨h3, h4⟩ := h2
      go_wp2
      have hm' := HM.out
      refine ⟨⟨i + 1, m, by omega, ?_, rfl, HV, by omega⟩, by simp [intOf]; omega⟩
      congr 1
      omega
    · obtain rfl : i = i0 := by omega
      have hb := HB.out
      clear HB hn
      by_cases h5 : 48 ≤ ((⟨s.toArray⟩ : ByteArray)[i]'(by omega)).toNat
      · have h6 : ¬ ((⟨s.toArray⟩ : ByteArray)[i]'(by omega)).toNat ≤ 57 := fun h => hb ⟨h5, h⟩
        clear hb
        go_wp2
        go_ret2
        exact ⟨rfl, Below.refl _ _⟩
      · clear hb
        go_wp2
        go_ret2
        exact ⟨rfl, Below.refl _ _⟩

set_option maxHeartbeats 1000000 in
set_option maxRecDepth 100000 in
theorem digits_good (s : List UInt8) (most : Nat) (hm : s.length ≤ most) (hs : most ≤ 16) (hall : s.all isDig = true) (w : World) :
    Calls Tryd.prog 44 #[.string ⟨s.toArray⟩, .int .i64 (most : Int)] w fun e w' => e = .returned (.tuple #[.int .u64 (vl s : Int), .bool (Lib.decDigits (vl s) == s)]) ∧ Below w.heap.size w w' := by
  have hz : (⟨s.toArray⟩ : ByteArray).size = s.length := by simp [ByteArray.size]
  have A := Lib.hid hall
  have K := Lib.hid (num_any (vl s) (by have := vl_bound s hall (by omega); omega))
  clear hall
  go_enter Tryd.func44, Tryd.ntmps44
  go_wp2
  go_loop [6, 7] (fun nv iv => ∃ i n : Nat, i ≤ s.length ∧ nv = .int .u64 (n : Int) ∧ iv = .int .i64 (i : Int) ∧ Hid (n = vl (s.take i)) ∧ n ≤ 9999999999999999) (fun _ iv => s.length - (intOf iv).toNat)
  case atStart => exact ⟨0, 0, by omega, rfl, rfl, Lib.hid rfl, by omega⟩
  case round =>
    obtain ⟨i, n, hle, rfl, rfl, hn, hlt⟩ := hrel
    by_cases hii : i < s.length
    · have htk := take_snoc s i hii
      have h1 : (s.take (i + 1)).all isDig = true := by
        have := A.out
        rw [List.all_eq_true] at this ⊢
        intro x hx
        exact this x (List.mem_of_mem_take hx)
      have h2 : 48 ≤ ((⟨s.toArray⟩ : ByteArray)[i]'(by omega)).toNat ∧ ((⟨s.toArray⟩ : ByteArray)[i]'(by omega)).toNat ≤ 57 := by
        rw [byte_at s i hii]
        rw [htk, List.all_append, Bool.and_eq_true] at h1
        simpa [isDig] using h1.2
      have HV := Lib.hid (show n * 10 + ((⟨s.toArray⟩ : ByteArray)[i]'(by omega)).toNat - 48 = vl (s.take (i + 1)) from by
        rw [htk, vl_snoc, ← hn.out, ← byte_at s i hii (by omega)]
        omega)
      have HL := vl_bound _ h1 (by rw [List.length_take]; omega)
      rw [← HV.out] at HL
      obtain ⟨m, hm'⟩ : ∃ m, m = n * 10 + ((⟨s.toArray⟩ : ByteArray)[i]'(by omega)).toNat - 48 := ⟨_, rfl⟩
      rw [← hm'] at HV HL
      have HM := Lib.hid hm'
      clear hm'
      clear htk h1 hn
      obtain ⟨h3, h4⟩ := h2
      go_wp2
      have hm' := HM.out
      refine ⟨⟨u4, u5, .int .u64 (m : Int), .int .i64 ((i + 1 : Nat) : Int), ⟨i + 1, by omega, m, rfl, rfl, HV, by omega⟩, rfl, rfl, ?_, rfl⟩, by simp [intOf]; omega⟩
      congr 1
      omega
    · obtain rfl : i = s.length := by omega
      have hnv : n = vl s := by have := hn.out; rwa [List.take_length] at this
      subst hnv
      clear hn
      go_wp2_with fail
      refine (K.out _).mono ?_
      rintro e w1 ⟨rfl, hb1⟩
      go_wp2
      go_ret2
      refine ⟨?_, hb1⟩
      rfl

theorem digits_any (s : List UInt8) (most : Nat) (hs : most ≤ 16) (w : World) :
    Calls Tryd.prog 44 #[.string ⟨s.toArray⟩, .int .i64 (most : Int)] w fun e w' => e = .returned (.tuple #[.int .u64 ((dgV s most).1 : Int), .bool (dgV s most).2]) ∧ Below w.heap.size w w' := by
  unfold dgV
  by_cases hm : most < s.length
  · rw [if_pos hm]
    exact digits_long s most hm w
  · rw [if_neg hm]
    by_cases hall : s.all isDig = true
    · rw [if_pos hall]
      exact digits_good s most (by omega) hs hall w
    · rw [if_neg hall]
      obtain ⟨i0, hi, h1, h2⟩ := first_bad s (by simpa using hall)
      exact digits_bad s most (by omega) hs i0 hi h1 h2 w

/-! an odd number and a power -/
def nrm : Nat → Nat → Int → Nat × Int
  | 0, m, p => (m, p)
  | n + 1, m, p => if m < 4503599627370496 ∧ -1074 < p then nrm n (m * 2) (p - 1) else (m, p)
def ofV (m : Nat) (p : Int) : Nat × Bool :=
  if m % 2 = 0 ∨ 9007199254740992 ≤ m ∨ p < -1074 ∨ 1023 < p then (0, false) else
  if 971 < (nrm 53 m p).2 then (0, false) else if (nrm 53 m p).1 < 4503599627370496 then ((nrm 53 m p).1, true) else (((((nrm 53 m p).2 + 1075) * 4503599627370496 + ((nrm 53 m p).1 : Int) - 4503599627370496).toNat), true)

set_option maxHeartbeats 1000000 in
set_option maxRecDepth 100000 in
theorem of_bad (x p : Int) (hm : 0 ≤ x ∧ x < 18446744073709551616) (h : (x % 2 == 0) = true ∨ 9007199254740992 ≤ x ∨ p < -1074 ∨ 1023 < p) (w : World) :
    Calls Tryd.prog 45 #[.int .u64 x, .int .i64 p] w fun e w' => e = .returned (.tuple #[.float .f64 0, .bool false]) ∧ Below w.heap.size w w' := by
  obtain ⟨hm0, hm1⟩ := hm
  cases h2 : x % 2 == 0 with
  | true =>
    clear h
    go_enter Tryd.func45, Tryd.ntmps45
    go_wp2
    go_ret2
    exact ⟨rfl, Below.refl _ _⟩
  | false =>
    rw [h2] at h
    by_cases h3 : 9007199254740992 ≤ x
    · clear h
      go_enter Tryd.func45, Tryd.ntmps45
      go_wp2
      go_ret2
      exact ⟨rfl, Below.refl _ _⟩
    · by_cases h4 : p < -1074
      · clear h
        go_enter Tryd.func45, Tryd.ntmps45
        go_wp2
        go_ret2
        exact ⟨rfl, Below.refl _ _⟩
      · have h5 : 1023 < p := by
          rcases h with h | h | h | h
          · cases h
          · omega
          · omega
          · exact h
        clear h
        go_enter Tryd.func45, Tryd.ntmps45
        go_wp2
        go_ret2
        exact ⟨rfl, Below.refl _ _⟩
set_option maxHeartbeats 1000000 in
set_option maxRecDepth 100000 in
theorem of_good (x p : Int) (h2 : (x % 2 == 0) = false) (h0 : 1 ≤ x) (h3 : x < 9007199254740992) (h4 : -1074 ≤ p) (h5 : p ≤ 1023) (M P : Int) (hN : Hid (∃ M', M = (M' : Nat) ∧ nrm 53 x.toNat p = (M', P))) (w : World) :
    Calls Tryd.prog 45 #[.int .u64 x, .int .i64 p] w fun e w' => e = .returned (if 971 < P then .tuple #[.float .f64 0, .bool false] else if M < 4503599627370496 then .tuple #[.float .f64 M.toNat, .bool true] else .tuple #[.float .f64 ((P + 1075) * 4503599627370496 + M - 4503599627370496).toNat, .bool true]) ∧ Below w.heap.size w w' := by
  go_enter Tryd.func45, Tryd.ntmps45
  go_wp2
  go_loop [0, 1] (fun mv pv => ∃ (n : Nat) (k q : Int), mv = .int .u64 k ∧ pv = .int .i64 q ∧ n ≤ 53 ∧ Hid (∃ M', M = (M' : Nat) ∧ nrm n k.toNat q = (M', P)) ∧ 1 ≤ k ∧ k < 9007199254740992 ∧ -1074 ≤ q ∧ q ≤ 1023 ∧ Hid (2 ^ (53 - n) ≤ k.toNat)) (fun _ pv => (intOf pv + 2000).toNat)
  case atStart => exact ⟨53, x, p, rfl, rfl, by omega, hN, h0, h3, h4, h5, Lib.hid (by rw [Nat.sub_self]; show 1 ≤ x.toNat; omega)⟩
  case round =>
    obtain ⟨n, k, q, rfl, rfl, hn, hh, hk1, hk2, hq1, hq2, hpw⟩ := hrel
    by_cases hlt : k < 4503599627370496 ∧ -1074 < q
    · obtain ⟨g1, g2⟩ := hlt
      have g1' : k.toNat < 4503599627370496 := by omega
      have hn0 : n ≠ 0 := by
        rintro rfl
        have := hpw.out
        rw [Nat.sub_zero] at this
        omega
      obtain ⟨n', rfl⟩ : ∃ n', n = n' + 1 := ⟨n - 1, by omega⟩
      have HH : Hid (∃ M', M = (M' : Nat) ∧ nrm n' (k * 2).toNat (q - 1) = (M', P)) := Lib.hid (by
        obtain ⟨M', hM, this⟩ := hh.out
        rw [nrm, if_pos ⟨g1', g2⟩] at this
        exact ⟨M', hM, by rw [show (k * 2).toNat = k.toNat * 2 from by omega]; exact this⟩)
      have HP : Hid (2 ^ (53 - n') ≤ (k * 2).toNat) := Lib.hid (by have := hpw.out; rw [show 53 - n' = (53 - (n' + 1)) + 1 from by omega, Nat.pow_succ]; omega)
      clear hh hpw g1'
      go_wp2
      exact ⟨⟨n', k * 2, q - 1, rfl, rfl, by omega, HH, by omega, by omega, by omega, by omega, HP⟩, by simp [intOf]; omega⟩
    · have hE : k = M ∧ q = P := by
        obtain ⟨M', hM, this⟩ := hh.out
        have hl : ¬ (k.toNat < 4503599627370496 ∧ -1074 < q) := fun h => hlt ⟨by omega, h.2⟩
        cases n with
        | zero => rw [nrm] at this; injection this with a b; exact ⟨by omega, b⟩
        | succ n => rw [nrm, if_neg hl] at this; injection this with a b; exact ⟨by omega, b⟩
      obtain ⟨rfl, rfl⟩ := hE
      clear hh hpw hN
      by_cases g3 : 971 < q
      · by_cases g1 : k < 4503599627370496
        · have g2 : ¬ -1074 < q := fun h => hlt ⟨g1, h⟩
          omega
        · clear hlt
          go_wp2
          go_ret2
          exact ⟨rfl, Below.refl _ _⟩
      · by_cases g1 : k < 4503599627370496
        · have g2 : ¬ -1074 < q := fun h => hlt ⟨g1, h⟩
          have g4 : (q == -1074) = true := by simp only [beq_iff_eq]; omega
          clear hlt
          go_wp2
          go_ret2
          exact ⟨rfl, Below.refl _ _⟩
        · clear hlt
          go_wp2
          go_ret2
          exact ⟨rfl, Below.refl _ _⟩
theorem of_any (m : Nat) (p : Int) (hm : m < 18446744073709551616) (w : World) :
    Calls Tryd.prog 45 #[.int .u64 (m : Int), .int .i64 p] w fun e w' => e = .returned (.tuple #[.float .f64 (ofV m p).1, .bool (ofV m p).2]) ∧ Below w.heap.size w w' := by
  by_cases h : m % 2 = 0 ∨ 9007199254740992 ≤ m ∨ p < -1074 ∨ 1023 < p
  · have hv : ofV m p = (0, false) := by unfold ofV; rw [if_pos h]
    rw [hv]
    refine of_bad (m : Int) p ⟨by omega, by omega⟩ ?_ w
    rcases h with h | h | h | h
    · exact .inl (by simp only [beq_iff_eq]; omega)
    · exact .inr (.inl (by omega))
    · exact .inr (.inr (.inl h))
    · exact .inr (.inr (.inr h))
  · simp only [not_or] at h
    have hv : ofV m p = if 971 < (nrm 53 m p).2 then (0, false) else if (nrm 53 m p).1 < 4503599627370496 then ((nrm 53 m p).1, true) else (((((nrm 53 m p).2 + 1075) * 4503599627370496 + ((nrm 53 m p).1 : Int) - 4503599627370496).toNat), true) := by
      unfold ofV
      rw [if_neg (by simp only [not_or]; exact h)]
    have h2 : ((m : Int) % 2 == 0) = false := by rw [beq_eq_false_iff_ne]; omega
    have hg := of_good (m : Int) p h2 (by omega) (by omega) (by omega) (by omega) ((nrm 53 m p).1 : Int) (nrm 53 m p).2 (Lib.hid ⟨_, rfl, by rw [Int.toNat_natCast]⟩) w
    rw [hv]
    generalize (nrm 53 m p).2 = P at *
    generalize (nrm 53 m p).1 = M at *
    refine hg.mono ?_
    rintro e w1 ⟨rfl, hb⟩
    refine ⟨?_, hb⟩
    by_cases g3 : 971 < P
    · rw [if_pos g3, if_pos g3]
    · rw [if_neg g3, if_neg g3]
      by_cases g1 : M < 4503599627370496
      · rw [if_pos g1, if_pos (by omega), Int.toNat_natCast]
      · rw [if_neg g1, if_neg (by omega)]
end Flo
end Go.Proofs.YtpcdncopdihcpaaDoor
