/- The walks of the document's text and its reading. -/
import Derived.Test.YtpcdncopdihcpaaDoorCostT
import Derived.Laws.BytesArg
import Derived.Lib.ConvBytes
namespace Go.Proofs.YtpcdncopdihcpaaDoor
open Go.RowKit
namespace Flo
open Ieee
attribute [local go_sem] fbits ffrom

theorem one_byte (W : World) (c : UInt8) (w : World) (hW : W.cell? ⟨w.heap.size, 0, none⟩ = some (.int .u8 (c.toNat : Int))) :
    (convert 85 9 (.slice (some ⟨w.heap.size, 0, none⟩) 1 1)).run Tryd.prog W = .ok (.string ⟨[c].toArray⟩) W := by
  have h := run_convert_bytes_back (P := Tryd.prog) W 85 9 5 ⟨w.heap.size, 0, none⟩ 1 [c] Tryd.underlying85 Tryd.underlying5 Tryd.underlying9 (fun j hj => by
    have : j = 0 := by simpa using hj
    subst this
    exact hW)
  exact h

theorem byte_str (w : World) (n : Int) (c : UInt8) (h : n = (c.toNat : Int)) :
    (convert 85 9 (.slice (some ⟨w.heap.size, 0, none⟩) 1 1)).run Tryd.prog (w.alloc (.cells #[.int .u8 n] 5)) = .ok (.string ⟨[c].toArray⟩) (w.alloc (.cells #[.int .u8 n] 5)) :=
  one_byte _ c w (by rw [World.cell?_alloc_new, h]; rfl)
theorem ofNat_toNat (n : Nat) (h : n < 256) : (UInt8.ofNat n).toNat = n := by
  rw [UInt8.toNat_ofNat']; omega

set_option maxRecDepth 100000 in
theorem num_small (u : Nat) (h : u < 10) (w : World) :
    Calls Tryd.prog 48 #[.int .u64 (u : Int)] w fun e w' => e = .returned (.string ⟨(Lib.decDigits u).toArray⟩) ∧ Below w.heap.size w w' := by
  have hd := Lib.decDigits_one h
  obtain ⟨c, hc⟩ : ∃ c, c = UInt8.ofNat (48 + u) := ⟨_, rfl⟩
  have hcv := byte_str w (48 + (u : Int)) c (by rw [hc, ofNat_toNat _ (by omega)]; omega)
  rw [← hc] at hd
  have HD := Lib.hid hd
  clear hc hd
  go_enter Tryd.func48, Tryd.ntmps48
  go_wp2
  go_ret
  rw [HD.out]
  exact ⟨rfl, below_alloc' _ _⟩
set_option maxRecDepth 100000 in
theorem num_step (u : Nat) (h : ¬ u < 10) (hu : u < 18446744073709551616) (w : World)
    (ih : ∀ w, Calls Tryd.prog 48 #[.int .u64 ((u / 10 : Nat) : Int)] w fun e w' => e = .returned (.string ⟨(Lib.decDigits (u / 10)).toArray⟩) ∧ Below w.heap.size w w') :
    Calls Tryd.prog 48 #[.int .u64 (u : Int)] w fun e w' => e = .returned (.string ⟨(Lib.decDigits u).toArray⟩) ∧ Below w.heap.size w w' := by
  have hd := Lib.hid (show Lib.decDigits u = Lib.decDigits (u / 10) ++ Lib.decDigits (u % 10) from by
    rw [Lib.decDigits, dif_neg h, Lib.decDigits_one (show u % 10 < 10 by omega)])
  have l1 := dec_len (u / 10) (by omega)
  have l2 := dec_len (u % 10) (by omega)
  have I := Lib.hid ih
  have I2 := Lib.hid (show ∀ w, Calls Tryd.prog 48 #[.int .u64 ((u % 10 : Nat) : Int)] w fun e w' => e = .returned (.string ⟨(Lib.decDigits (u % 10)).toArray⟩) ∧ Below w.heap.size w w' from fun w => num_small (u % 10) (by omega) w)
  clear ih
  go_enter Tryd.func48, Tryd.ntmps48
  go_wp2_with fail
  refine (I.out _).mono ?_
  rintro e w1 ⟨rfl, hb1⟩
  go_wp2_with fail
  refine (I2.out _).mono ?_
  rintro e w2 ⟨rfl, hb2⟩
  go_wp2
  go_ret
  refine ⟨?_, below_trans hb1 hb2⟩
  rw [hd.out]
  exact ret_str (by simp)
theorem num_any (u : Nat) (hu : u < 18446744073709551616) : ∀ w, Calls Tryd.prog 48 #[.int .u64 (u : Int)] w fun e w' => e = .returned (.string ⟨(Lib.decDigits u).toArray⟩) ∧ Below w.heap.size w w' := by
  induction u using Nat.strongRecOn with
  | _ u ih =>
    intro w
    by_cases h : u < 10
    · exact num_small u h w
    · exact num_step u h hu w (ih (u / 10) (by omega) (by omega))

/-! the document's text -/
set_option maxHeartbeats 1000000 in
set_option maxRecDepth 100000 in
theorem RText_fin (b : Nat) (hb : b < 18446744073709551616) (r : Nat) (hr : b % 9223372036854775808 = r) (h0 : 0 < r) (h1 : r < 9218868437227405312) (w : World) :
    Calls Tryd.prog 15 #[.float .f64 b] w fun e w' => e = .returned (.string ⟨(textL b).toArray⟩) ∧ Below w.heap.size w w' := by
  have hn : nan b = false := decide_eq_false (by omega)
  have hz := zero_iff b hn
  rw [hr, decide_eq_false (by omega)] at hz
  have hne : (FloatKind.f64.format.order b b != some Ordering.eq) = false := (ne_self b).trans hn
  have hp := RParts_fin b hb r hr h0 h1 w
  have o2 := (odd_eq h0).2.1
  have ho : odd r < 18446744073709551616 := by
    have h2 := (nsig_ge h0).2
    have : odd r ≤ nsig r := Nat.div_le_self _ _
    omega
  have hpw : -1200 ≤ power r ∧ power r ≤ 1200 := by
    have h3 := (odd_eq h0).2.2
    unfold power nexp
    split
    · have := (subnorm_q h0 (by assumption)).1
      omega
    · omega
  have HT := Lib.hid (show textL b = (if minus b then [45] else []) ++ (Lib.decDigits (odd r) ++ 112 :: Lib.itoa (power r)) from by
    unfold textL
    rw [hn, hr, if_neg (by omega : ¬ r = 9218868437227405312), if_neg (by omega : ¬ r = 0)]
    rfl)
  have H2 := Lib.hid hp
  have H4 := Lib.hid (num_any (odd r) ho)
  have L1 := dec_len _ ho
  clear hn hr hp h0 h1 ho
  generalize odd r = o at *
  generalize power r = p at *
  generalize minus b = m at *
  have ho0 : ((o : Int) == 0) = false := by rw [beq_eq_false_iff_ne]; omega
  by_cases hneg : p < 0
  · obtain ⟨u, rfl⟩ : ∃ u : Nat, p = -(u : Int) := ⟨p.natAbs, by omega⟩
    have hi := Lib.hid (Lib.itoa_neg u (by omega))
    have H5 := Lib.hid (num_any u (by omega))
    have L2 := dec_len u (by omega)
    have hwr : IntKind.u64.wrap (- -(u : Int)) = (u : Int) := by rw [IntKind.wrap_u64]; omega
    have hwr2 : - -(u : Int) = (u : Int) := by omega
    cases m <;>
    · go_enter Tryd.func15, Tryd.ntmps15
      go_wp2_with fail
      refine H2.out.mono ?_
      rintro e w1 ⟨rfl, hb1⟩
      unfold partsV
      go_wp2_with fail
      refine (H4.out _).mono ?_
      rintro e w2 ⟨rfl, hb2⟩
      go_wp2_with fail
      refine (H5.out _).mono ?_
      rintro e w3 ⟨rfl, hb3⟩
      go_wp2
      go_ret
      refine ⟨?_, below_trans hb1 (below_trans hb2 hb3)⟩
      rw [HT.out, hi.out]
      exact ret_str (by simp)
  · obtain ⟨u, rfl⟩ : ∃ u : Nat, p = (u : Int) := ⟨p.natAbs, by omega⟩
    have hi := Lib.hid (Lib.itoa_nonneg u)
    have H5 := Lib.hid (num_any u (by omega))
    have L2 := dec_len u (by omega)
    cases m <;>
    · go_enter Tryd.func15, Tryd.ntmps15
      go_wp2_with fail
      refine H2.out.mono ?_
      rintro e w1 ⟨rfl, hb1⟩
      unfold partsV
      go_wp2_with fail
      refine (H4.out _).mono ?_
      rintro e w2 ⟨rfl, hb2⟩
      go_wp2_with fail
      refine (H5.out _).mono ?_
      rintro e w3 ⟨rfl, hb3⟩
      go_wp2
      go_ret
      refine ⟨?_, below_trans hb1 (below_trans hb2 hb3)⟩
      rw [HT.out, hi.out]
      exact ret_str (by simp)
set_option maxRecDepth 100000 in
theorem RText_nan (b : Nat) (hn : nan b = true) (w : World) :
    Calls Tryd.prog 15 #[.float .f64 b] w fun e w' => e = .returned (.string ⟨(textL b).toArray⟩) ∧ Below w.heap.size w w' := by
  have HT := Lib.hid (show textL b = [] from by unfold textL; rw [if_pos hn])
  have hne : (FloatKind.f64.format.order b b != some Ordering.eq) = true := (ne_self b).trans hn
  clear hn
  go_enter Tryd.func15, Tryd.ntmps15
  go_wp2
  go_ret
  rw [HT.out]
  exact ⟨rfl, Below.refl _ _⟩
set_option maxRecDepth 100000 in
theorem RText_edge (b : Nat) (hb : b < 18446744073709551616) (E : Nat) (hr : b % 9223372036854775808 = E * 4503599627370496) (hE : E = 0 ∨ E = 2047) (w : World) :
    Calls Tryd.prog 15 #[.float .f64 b] w fun e w' => e = .returned (.string ⟨(textL b).toArray⟩) ∧ Below w.heap.size w w' := by
  have hn : nan b = false := decide_eq_false (by omega)
  have hz : (FloatKind.f64.format.order b 0 == some Ordering.eq) = decide (E = 0) := by rw [zero_iff b hn]; exact decide_eq_decide.2 (by omega)
  have hne : (FloatKind.f64.format.order b b != some Ordering.eq) = false := (ne_self b).trans hn
  have HT := Lib.hid (show textL b = (if minus b then [45] else []) ++ (if E = 0 then [48] else [105, 110, 102]) from by
    unfold textL
    rw [hn]
    rcases hE with hE | hE
    · have h2 : b % 9223372036854775808 = 0 := by rw [hr, hE]
      rw [if_neg (by omega : ¬ b % 9223372036854775808 = 9218868437227405312), if_pos h2, if_pos hE, if_neg (by decide : ¬ false = true)]
    · have h2 : b % 9223372036854775808 = 9218868437227405312 := by rw [hr, hE]
      rw [if_pos h2, if_neg (by omega : ¬ E = 0), if_neg (by decide : ¬ false = true)])
  have H2 := Lib.hid (RParts_edge b hb E hr hE w)
  clear hn hr
  generalize minus b = m at *
  rcases hE with rfl | rfl
  · rw [decide_eq_true rfl] at hz
    cases m <;>
    · go_enter Tryd.func15, Tryd.ntmps15
      go_wp2_with fail
      refine H2.out.mono ?_
      rintro e w1 ⟨rfl, hb1⟩
      unfold partsV
      go_wp2
      go_ret
      refine ⟨?_, hb1⟩
      rw [HT.out]
      exact ret_str (by simp)
  · rw [decide_eq_false (by decide)] at hz
    cases m <;>
    · go_enter Tryd.func15, Tryd.ntmps15
      go_wp2_with fail
      refine H2.out.mono ?_
      rintro e w1 ⟨rfl, hb1⟩
      unfold partsV
      go_wp2
      go_ret
      refine ⟨?_, hb1⟩
      rw [HT.out]
      exact ret_str (by simp)
theorem RText_any (b : Nat) (hb : b < 18446744073709551616) (w : World) :
    Calls Tryd.prog 15 #[.float .f64 b] w fun e w' => e = .returned (.string ⟨(textL b).toArray⟩) ∧ Below w.heap.size w w' := by
  cases hn : nan b with
  | true => exact RText_nan b hn w
  | false =>
    have hq := of_decide_eq_false hn
    by_cases h0 : b % 9223372036854775808 = 0
    · exact RText_edge b hb 0 (by omega) (.inl rfl) w
    · by_cases h1 : b % 9223372036854775808 = 9218868437227405312
      · exact RText_edge b hb 2047 (by omega) (.inr rfl) w
      · exact RText_fin b hb _ rfl (by omega) (by omega) w
end Flo
end Go.Proofs.YtpcdncopdihcpaaDoor
