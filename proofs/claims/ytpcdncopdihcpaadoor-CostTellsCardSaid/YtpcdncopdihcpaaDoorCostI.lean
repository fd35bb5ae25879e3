/- The walk of the program's Parse. -/
import Derived.Test.YtpcdncopdihcpaaDoorCostR
namespace Go.Proofs.YtpcdncopdihcpaaDoor
open Go.RowKit
namespace Flo
open Ieee
attribute [local go_sem] fbits ffrom

/-! the library's calls, on lists -/
theorem CutPrefix_L (l p : List UInt8) (w : World) :
    Calls Tryd.prog 38 #[.string ⟨l.toArray⟩, .string ⟨p.toArray⟩] w fun e w' => e = .returned (.tuple #[.string ⟨(Lib.trimPrefix l p).toArray⟩, .bool (Lib.hasPrefix l p)]) ∧ w = w' :=
  (Tryd.strings_CutPrefix ⟨l.toArray⟩ ⟨p.toArray⟩ w).mono fun _ _ ⟨he, hw⟩ => ⟨by simpa using he, hw.symm⟩
theorem Cut_L (l sep : List UInt8) (w : World) (E : Env w) (hs : l.length < 4294967281) :
    Calls Tryd.prog 39 #[.string ⟨l.toArray⟩, .string ⟨sep.toArray⟩] w fun e w' => e = .returned (.tuple #[.string ⟨(Lib.cut l sep).1.toArray⟩, .string ⟨(Lib.cut l sep).2.1.toArray⟩, .bool (Lib.cut l sep).2.2]) ∧ Below w.heap.size w w' :=
  (Cut_any ⟨l.toArray⟩ ⟨sep.toArray⟩ w E (by simpa [ByteArray.size] using hs)).mono fun _ _ ⟨he, hw⟩ => ⟨by simpa using he, hw⟩
theorem ParseUint53_L (l : List UInt8) (hlim : l.length ≤ 281474976710656) (w : World) (E : Env w) :
    Calls Tryd.prog 40 #[.string ⟨l.toArray⟩, .int .i64 10, .int .i64 53] w fun e w' => (∃ ev, e = .returned (.tuple #[.int .u64 ((pu 10 9007199254740991 dig10 0 l).1 : Int), ev])) ∧ Below w.heap.size w w' :=
  (ParseUint_10_53 ⟨l.toArray⟩ (by simpa [ByteArray.size] using hlim) w E).mono fun _ _ ⟨⟨ev, he⟩, hw⟩ => ⟨⟨ev, by simpa using he⟩, hw⟩
theorem Atoi_L (l : List UInt8) (hlim : l.length ≤ 281474976710656) (w : World) (E : Env w) :
    Calls Tryd.prog 41 #[.string ⟨l.toArray⟩] w fun e w' => (∃ ev, e = .returned (.tuple #[.int .i64 (atoiV l), ev])) ∧ Below w.heap.size w w' :=
  (Atoi_any ⟨l.toArray⟩ (by simpa [ByteArray.size] using hlim) w E).mono fun _ _ ⟨⟨ev, he⟩, hw⟩ => ⟨⟨ev, by simpa using he⟩, hw⟩

theorem atoiAll_range (l : List UInt8) (v : Int) (h : Lib.atoiAll l = .ok v) : -9223372036854775808 ≤ v ∧ v ≤ 9223372036854775807 := by
  cases l with
  | nil => cases h
  | cons c r =>
    simp only [Lib.atoiAll] at h
    split at h
    · cases h
    · cases h
    · rename_i u _
      split at h
      · cases h
      · split at h
        · cases h
        · injection h with h
          subst h
          by_cases hn : c.toNat = 45 <;> simp_all <;> omega
theorem atoiV_range (l : List UInt8) : -9223372036854775808 ≤ atoiV l ∧ atoiV l ≤ 9223372036854775807 := by
  unfold atoiV
  split
  · exact atoiAll_range l _ (by assumption)
  · unfold Lib.atoiSat
    split <;> omega
  · omega
theorem trim_len (s p : List UInt8) : (Lib.trimPrefix s p).length ≤ s.length := by
  unfold Lib.trimPrefix
  split
  · simp
  · exact Nat.le_refl _
theorem cut_len (s p : List UInt8) : (Lib.cut s p).1.length ≤ s.length ∧ (Lib.cut s p).2.1.length ≤ s.length := by
  unfold Lib.cut
  split
  · simp only [List.length_take, List.length_drop]; omega
  · simp

theorem float_range (n : Nat) (h0 : n ≠ 0) (h : n ≤ 9007199254740991) : 4503599627370496 ≤ FloatKind.f64.nearest (n : Int) ∧ FloatKind.f64.nearest (n : Int) < 9218868437227405312 := by
  rw [float_of n (by omega), if_neg h0]
  have hL : n.log2 < 53 := (Nat.log2_lt h0).2 (by simpa using (by omega : n < 9007199254740992))
  have h3 : n * 2 ^ (52 - n.log2) < 9007199254740992 := by
    calc n * 2 ^ (52 - n.log2) < 2 ^ (n.log2 + 1) * 2 ^ (52 - n.log2) := Nat.mul_lt_mul_of_pos_right Nat.lt_log2_self (Nat.two_pow_pos _)
      _ = 2 ^ 53 := by rw [← Nat.pow_add]; congr 1; omega
      _ = _ := by decide
  omega

/-- what is read of an odd number and a power -/
def ofParts (n : Nat) (p : Int) : Nat := if n = 0 then 0 else ldexpF (FloatKind.f64.nearest (n : Int)) p
theorem Ldexp_of (n : Nat) (h : n ≤ 9007199254740991) (p : Int) (h1 : -9223372036854775808 ≤ p) (h2 : p ≤ 9223372036854775807) (w : World) :
    Calls Tryd.prog 35 #[.float .f64 (FloatKind.f64.nearest (n : Int)), .int .i64 p] w fun e w' => e = .returned (.float .f64 (ofParts n p)) ∧ w = w' := by
  unfold ofParts
  by_cases h0 : n = 0
  · subst h0
    exact Ldexp_zero p w
  · rw [if_neg h0]
    obtain ⟨g1, g2⟩ := float_range n h0 h
    exact Ldexp_any _ g1 g2 p h1 h2 w
theorem ldexpF_lt (fr : Nat) (p : Int) : ldexpF fr p < 18446744073709551616 := by
  have hg : ∀ o : Option Nat, (∀ z, o = some z → z < 18446744073709551616) → o.getD 0 < 18446744073709551616 := by
    intro o h
    cases o with
    | none => decide
    | some z => exact h z rfl
  unfold ldexpF
  split
  · decide
  · split
    · decide
    · split
      · exact hg _ fun z hz => Format.mul_lt double hz
      · exact hg _ fun z hz => Format.mul_lt double hz
theorem ofParts_lt (n : Nat) (p : Int) : ofParts n p < 18446744073709551616 := by
  unfold ofParts
  split
  · decide
  · exact ldexpF_lt _ _

def rest (s : List UInt8) : List UInt8 := Lib.trimPrefix s [45]
def f0 (s : List UInt8) : Nat := ofParts (pu 10 9007199254740991 dig10 0 (Lib.cut (rest s) [112]).1).1 (atoiV (Lib.cut (rest s) [112]).2.1)
def f1 (s : List UInt8) : Nat := if rest s = [105, 110, 102] then 9218868437227405312 else f0 s
def f2 (s : List UInt8) : Nat := if Lib.hasPrefix s [45] then copysign (f1 s) 13830554455654793216 else f1 s
def parseI (s : List UInt8) : Nat × Bool := if s = [] ∨ textL (f2 s) ≠ s then (0, false) else (f2 s, true)

set_option maxHeartbeats 2000000 in
set_option maxRecDepth 100000 in
theorem Parse_inf_false (s : List UInt8) (hs : s.length ≤ 1000) (hi : rest s = [105, 110, 102]) (hm : Lib.hasPrefix s [45] = false) (w : World) (E : Env w) :
    Calls Tryd.prog 12 #[.string ⟨s.toArray⟩] w fun e w' => e = .returned (.tuple #[.float .f64 (parseI s).1, .bool (parseI s).2]) ∧ Below w.heap.size w w' := by
  have HE := Lib.hid E
  have H1 := CutPrefix_L s [45] w
  have hr : (rest s).length ≤ 1000 := Nat.le_trans (trim_len _ _) hs
  have H2 := Cut_L (rest s) [112] w E (by omega)
  have hc1 := (cut_len (rest s) [112]).1
  have hc2 := (cut_len (rest s) [112]).2
  have H3 := fun w E => ParseUint53_L (Lib.cut (rest s) [112]).1 (by omega) w E
  have H4 := fun w E => Atoi_L (Lib.cut (rest s) [112]).2.1 (by omega) w E
  have hn := pu_le 10 9007199254740991 dig10 (Lib.cut (rest s) [112]).1 0 (by omega)
  have hp := atoiV_range (Lib.cut (rest s) [112]).2.1
  have H5 := fun w => Ldexp_of _ hn _ hp.1 hp.2 w
  have hf0 : f0 s = ofParts (pu 10 9007199254740991 dig10 0 (Lib.cut (rest s) [112]).1).1 (atoiV (Lib.cut (rest s) [112]).2.1) := rfl
  rw [← hf0] at H5
  have hf1 : f1 s = if rest s = [105, 110, 102] then 9218868437227405312 else f0 s := rfl
  have hf2 : f2 s = if Lib.hasPrefix s [45] then copysign (f1 s) 13830554455654793216 else f1 s := rfl
  have hfl : f0 s < 18446744073709551616 := ofParts_lt _ _
  have hpi : parseI s = if s = [] ∨ textL (f2 s) ≠ s then (0, false) else (f2 s, true) := rfl
  have hrs : Lib.trimPrefix s [45] = rest s := rfl
  rw [hrs] at H1
  generalize (pu 10 9007199254740991 dig10 0 (Lib.cut (rest s) [112]).1).1 = n at *
  generalize atoiV (Lib.cut (rest s) [112]).2.1 = p at *
  generalize (Lib.cut (rest s) [112]).1 = hd at *
  generalize (Lib.cut (rest s) [112]).2.1 = tl at *
  generalize (Lib.cut (rest s) [112]).2.2 = bb at *
  generalize parseI s = res at *
  generalize f2 s = F2 at *
  generalize f1 s = F1 at *
  generalize f0 s = F0 at *
  generalize rest s = rs at *
  generalize Lib.hasPrefix s [45] = minus at *
  subst hm
  have HI := Lib.hid hi
  clear hi
  have K1 := Lib.hid H1
  have K2 := Lib.hid H2
  have K3 := Lib.hid H3
  have K4 := Lib.hid H4
  have K5 := Lib.hid H5
  have G1 := Lib.hid hf1
  have G2 := Lib.hid hf2
  have G3 := Lib.hid hpi
  clear H1 H2 H3 H4 H5 hf0 hf1 hf2 hpi hrs hc1 hc2 hn hp hr
  go_enter Tryd.func12, Tryd.ntmps12
  go_wp2_with fail
  refine K1.out.mono ?_
  rintro e w' ⟨rfl, rfl⟩
  go_wp2_with fail
  refine K2.out.mono ?_
  rintro e w1 ⟨rfl, hb1⟩
  go_wp2_with fail
  refine (K3.out _ (E.below hb1)).mono ?_
  rintro e w2 ⟨⟨ev, rfl⟩, hb2⟩
  go_wp2_with fail
  refine (K4.out _ ((E.below hb1).below hb2)).mono ?_
  rintro e w3 ⟨⟨ev2, rfl⟩, hb3⟩
  go_wp2_with fail
  refine (K5.out _).mono ?_
  rintro e w4 ⟨rfl, rfl⟩
  clear HE
  have e1 := G1.out
  rw [if_pos HI.out] at e1
  subst e1
  have hib : (rs == [105, 110, 102]) = true := by simp [HI.out]
  clear HI G1 K1 K2 K3 K4 K5
 
  -- inf 1, minus 0
  have e2 := G2.out
  rw [if_neg (by decide)] at e2
  subst e2
  have G3 := G3
  have hF : 9218868437227405312 < 18446744073709551616 := by omega
  have T := fun w E => Text_any (9218868437227405312) hF w E
  have KT := Lib.hid T
  clear T
  by_cases hs0 : s = []
  · have e3 := G3.out
    rw [if_pos (.inl hs0)] at e3
    subst e3
    go_wp2_with fail
    refine (inf_pos _).mono ?_
    rintro e w' ⟨rfl, rfl⟩
    go_wp2_with fail
    go_ret2
    exact ⟨rfl, below_trans hb1 (below_trans hb2 hb3)⟩
  · by_cases ht : textL (9218868437227405312) = s
    · have e3 := G3.out
      rw [if_neg (by simp only [ne_eq, not_or, Decidable.not_not]; exact ⟨hs0, ht⟩)] at e3
      have E3 := Lib.hid e3
      clear e3
      have hse : s.isEmpty = false := by simp [hs0]
      have hq : (textL (9218868437227405312) != s) = false := by simp [ht]
      have hq2 : (textL (9218868437227405312) == s) = true := by simp [ht]
      clear ht
      go_wp2_with fail
      refine (inf_pos _).mono ?_
      rintro e w' ⟨rfl, rfl⟩
      go_wp2_with fail
      refine (KT.out _ (((E.below hb1).below hb2).below hb3)).mono ?_
      rintro e w5 ⟨rfl, hb5⟩
      go_wp2
      go_ret2
      rw [E3.out]
      exact ⟨rfl, below_trans hb1 (below_trans hb2 (below_trans hb3 hb5))⟩
    · have e3 := G3.out
      rw [if_pos (.inr ht)] at e3
      have E3 := Lib.hid e3
      clear e3
      have hse : s.isEmpty = false := by simp [hs0]
      have hq : (textL (9218868437227405312) != s) = true := by simp [ht]
      have hq2 : (textL (9218868437227405312) == s) = false := by simp [ht]
      clear ht
      go_wp2_with fail
      refine (inf_pos _).mono ?_
      rintro e w' ⟨rfl, rfl⟩
      go_wp2_with fail
      refine (KT.out _ (((E.below hb1).below hb2).below hb3)).mono ?_
      rintro e w5 ⟨rfl, hb5⟩
      go_wp2
      go_ret2
      rw [E3.out]
      exact ⟨rfl, below_trans hb1 (below_trans hb2 (below_trans hb3 hb5))⟩

set_option maxHeartbeats 2000000 in
set_option maxRecDepth 100000 in
theorem Parse_inf_true (s : List UInt8) (hs : s.length ≤ 1000) (hi : rest s = [105, 110, 102]) (hm : Lib.hasPrefix s [45] = true) (w : World) (E : Env w) :
    Calls Tryd.prog 12 #[.string ⟨s.toArray⟩] w fun e w' => e = .returned (.tuple #[.float .f64 (parseI s).1, .bool (parseI s).2]) ∧ Below w.heap.size w w' := by
  have HE := Lib.hid E
  have H1 := CutPrefix_L s [45] w
  have hr : (rest s).length ≤ 1000 := Nat.le_trans (trim_len _ _) hs
  have H2 := Cut_L (rest s) [112] w E (by omega)
  have hc1 := (cut_len (rest s) [112]).1
  have hc2 := (cut_len (rest s) [112]).2
  have H3 := fun w E => ParseUint53_L (Lib.cut (rest s) [112]).1 (by omega) w E
  have H4 := fun w E => Atoi_L (Lib.cut (rest s) [112]).2.1 (by omega) w E
  have hn := pu_le 10 9007199254740991 dig10 (Lib.cut (rest s) [112]).1 0 (by omega)
  have hp := atoiV_range (Lib.cut (rest s) [112]).2.1
  have H5 := fun w => Ldexp_of _ hn _ hp.1 hp.2 w
  have hf0 : f0 s = ofParts (pu 10 9007199254740991 dig10 0 (Lib.cut (rest s) [112]).1).1 (atoiV (Lib.cut (rest s) [112]).2.1) := rfl
  rw [← hf0] at H5
  have hf1 : f1 s = if rest s = [105, 110, 102] then 9218868437227405312 else f0 s := rfl
  have hf2 : f2 s = if Lib.hasPrefix s [45] then copysign (f1 s) 13830554455654793216 else f1 s := rfl
  have hfl : f0 s < 18446744073709551616 := ofParts_lt _ _
  have hpi : parseI s = if s = [] ∨ textL (f2 s) ≠ s then (0, false) else (f2 s, true) := rfl
  have hrs : Lib.trimPrefix s [45] = rest s := rfl
  rw [hrs] at H1
  generalize (pu 10 9007199254740991 dig10 0 (Lib.cut (rest s) [112]).1).1 = n at *
  generalize atoiV (Lib.cut (rest s) [112]).2.1 = p at *
  generalize (Lib.cut (rest s) [112]).1 = hd at *
  generalize (Lib.cut (rest s) [112]).2.1 = tl at *
  generalize (Lib.cut (rest s) [112]).2.2 = bb at *
  generalize parseI s = res at *
  generalize f2 s = F2 at *
  generalize f1 s = F1 at *
  generalize f0 s = F0 at *
  generalize rest s = rs at *
  generalize Lib.hasPrefix s [45] = minus at *
  subst hm
  have HI := Lib.hid hi
  clear hi
  have K1 := Lib.hid H1
  have K2 := Lib.hid H2
  have K3 := Lib.hid H3
  have K4 := Lib.hid H4
  have K5 := Lib.hid H5
  have G1 := Lib.hid hf1
  have G2 := Lib.hid hf2
  have G3 := Lib.hid hpi
  clear H1 H2 H3 H4 H5 hf0 hf1 hf2 hpi hrs hc1 hc2 hn hp hr
  go_enter Tryd.func12, Tryd.ntmps12
  go_wp2_with fail
  refine K1.out.mono ?_
  rintro e w' ⟨rfl, rfl⟩
  go_wp2_with fail
  refine K2.out.mono ?_
  rintro e w1 ⟨rfl, hb1⟩
  go_wp2_with fail
  refine (K3.out _ (E.below hb1)).mono ?_
  rintro e w2 ⟨⟨ev, rfl⟩, hb2⟩
  go_wp2_with fail
  refine (K4.out _ ((E.below hb1).below hb2)).mono ?_
  rintro e w3 ⟨⟨ev2, rfl⟩, hb3⟩
  go_wp2_with fail
  refine (K5.out _).mono ?_
  rintro e w4 ⟨rfl, rfl⟩
  clear HE
  have e1 := G1.out
  rw [if_pos HI.out] at e1
  subst e1
  have hib : (rs == [105, 110, 102]) = true := by simp [HI.out]
  clear HI G1 K1 K2 K3 K4 K5
 
  -- inf 1, minus 1
  have e2 := G2.out
  rw [if_pos (by trivial)] at e2
  subst e2
  have G3 := G3
  have hF : copysign 9218868437227405312 13830554455654793216 < 18446744073709551616 := by unfold copysign; omega
  have T := fun w E => Text_any (copysign 9218868437227405312 13830554455654793216) hF w E
  have KT := Lib.hid T
  clear T
  by_cases hs0 : s = []
  · have e3 := G3.out
    rw [if_pos (.inl hs0)] at e3
    subst e3
    go_wp2_with fail
    refine (inf_pos _).mono ?_
    rintro e w' ⟨rfl, rfl⟩
    go_wp2_with fail
    refine (copysign_any _ _ (by omega) (by omega) _).mono ?_
    rintro e w' ⟨rfl, rfl⟩
    go_wp2_with fail
    go_ret2
    exact ⟨rfl, below_trans hb1 (below_trans hb2 hb3)⟩
  · by_cases ht : textL (copysign 9218868437227405312 13830554455654793216) = s
    · have e3 := G3.out
      rw [if_neg (by simp only [ne_eq, not_or, Decidable.not_not]; exact ⟨hs0, ht⟩)] at e3
      have E3 := Lib.hid e3
      clear e3
      have hse : s.isEmpty = false := by simp [hs0]
      have hq : (textL (copysign 9218868437227405312 13830554455654793216) != s) = false := by simp [ht]
      have hq2 : (textL (copysign 9218868437227405312 13830554455654793216) == s) = true := by simp [ht]
      clear ht
      go_wp2_with fail
      refine (inf_pos _).mono ?_
      rintro e w' ⟨rfl, rfl⟩
      go_wp2_with fail
      refine (copysign_any _ _ (by omega) (by omega) _).mono ?_
      rintro e w' ⟨rfl, rfl⟩
      go_wp2_with fail
      refine (KT.out _ (((E.below hb1).below hb2).below hb3)).mono ?_
      rintro e w5 ⟨rfl, hb5⟩
      go_wp2
      go_ret2
      rw [E3.out]
      exact ⟨rfl, below_trans hb1 (below_trans hb2 (below_trans hb3 hb5))⟩
    · have e3 := G3.out
      rw [if_pos (.inr ht)] at e3
      have E3 := Lib.hid e3
      clear e3
      have hse : s.isEmpty = false := by simp [hs0]
      have hq : (textL (copysign 9218868437227405312 13830554455654793216) != s) = true := by simp [ht]
      have hq2 : (textL (copysign 9218868437227405312 13830554455654793216) == s) = false := by simp [ht]
      clear ht
      go_wp2_with fail
      refine (inf_pos _).mono ?_
      rintro e w' ⟨rfl, rfl⟩
      go_wp2_with fail
      refine (copysign_any _ _ (by omega) (by omega) _).mono ?_
      rintro e w' ⟨rfl, rfl⟩
      go_wp2_with fail
      refine (KT.out _ (((E.below hb1).below hb2).below hb3)).mono ?_
      rintro e w5 ⟨rfl, hb5⟩
      go_wp2
      go_ret2
      rw [E3.out]
      exact ⟨rfl, below_trans hb1 (below_trans hb2 (below_trans hb3 hb5))⟩

set_option maxHeartbeats 2000000 in
set_option maxRecDepth 100000 in
theorem Parse_fin_false (s : List UInt8) (hs : s.length ≤ 1000) (hi : ¬ rest s = [105, 110, 102]) (hm : Lib.hasPrefix s [45] = false) (w : World) (E : Env w) :
    Calls Tryd.prog 12 #[.string ⟨s.toArray⟩] w fun e w' => e = .returned (.tuple #[.float .f64 (parseI s).1, .bool (parseI s).2]) ∧ Below w.heap.size w w' := by
  have HE := Lib.hid E
  have H1 := CutPrefix_L s [45] w
  have hr : (rest s).length ≤ 1000 := Nat.le_trans (trim_len _ _) hs
  have H2 := Cut_L (rest s) [112] w E (by omega)
  have hc1 := (cut_len (rest s) [112]).1
  have hc2 := (cut_len (rest s) [112]).2
  have H3 := fun w E => ParseUint53_L (Lib.cut (rest s) [112]).1 (by omega) w E
  have H4 := fun w E => Atoi_L (Lib.cut (rest s) [112]).2.1 (by omega) w E
  have hn := pu_le 10 9007199254740991 dig10 (Lib.cut (rest s) [112]).1 0 (by omega)
  have hp := atoiV_range (Lib.cut (rest s) [112]).2.1
  have H5 := fun w => Ldexp_of _ hn _ hp.1 hp.2 w
  have hf0 : f0 s = ofParts (pu 10 9007199254740991 dig10 0 (Lib.cut (rest s) [112]).1).1 (atoiV (Lib.cut (rest s) [112]).2.1) := rfl
  rw [← hf0] at H5
  have hf1 : f1 s = if rest s = [105, 110, 102] then 9218868437227405312 else f0 s := rfl
  have hf2 : f2 s = if Lib.hasPrefix s [45] then copysign (f1 s) 13830554455654793216 else f1 s := rfl
  have hfl : f0 s < 18446744073709551616 := ofParts_lt _ _
  have hpi : parseI s = if s = [] ∨ textL (f2 s) ≠ s then (0, false) else (f2 s, true) := rfl
  have hrs : Lib.trimPrefix s [45] = rest s := rfl
  rw [hrs] at H1
  generalize (pu 10 9007199254740991 dig10 0 (Lib.cut (rest s) [112]).1).1 = n at *
  generalize atoiV (Lib.cut (rest s) [112]).2.1 = p at *
  generalize (Lib.cut (rest s) [112]).1 = hd at *
  generalize (Lib.cut (rest s) [112]).2.1 = tl at *
  generalize (Lib.cut (rest s) [112]).2.2 = bb at *
  generalize parseI s = res at *
  generalize f2 s = F2 at *
  rw [if_neg hi] at hf1
  rw [hf1] at hf2
  generalize f0 s = F0 at *
  generalize rest s = rs at *
  generalize Lib.hasPrefix s [45] = minus at *
  subst hm
  have HI := Lib.hid hi
  clear hi
  have K1 := Lib.hid H1
  have K2 := Lib.hid H2
  have K3 := Lib.hid H3
  have K4 := Lib.hid H4
  have K5 := Lib.hid H5
  have G2 := Lib.hid hf2
  have G3 := Lib.hid hpi
  clear H1 H2 H3 H4 H5 hf0 hf1 hf2 hpi hrs hc1 hc2 hn hp hr
  go_enter Tryd.func12, Tryd.ntmps12
  go_wp2_with fail
  refine K1.out.mono ?_
  rintro e w' ⟨rfl, rfl⟩
  go_wp2_with fail
  refine K2.out.mono ?_
  rintro e w1 ⟨rfl, hb1⟩
  go_wp2_with fail
  refine (K3.out _ (E.below hb1)).mono ?_
  rintro e w2 ⟨⟨ev, rfl⟩, hb2⟩
  go_wp2_with fail
  refine (K4.out _ ((E.below hb1).below hb2)).mono ?_
  rintro e w3 ⟨⟨ev2, rfl⟩, hb3⟩
  go_wp2_with fail
  refine (K5.out _).mono ?_
  rintro e w4 ⟨rfl, rfl⟩
  clear HE
  have hib : (rs == [105, 110, 102]) = false := by simp [HI.out]
  clear HI K1 K2 K3 K4 K5
 
  -- inf 0, minus 0
  have e2 := G2.out
  rw [if_neg (by decide)] at e2
  subst e2
  have G3 := G3
  have hF : F2 < 18446744073709551616 := by exact hfl
  have T := fun w E => Text_any (F2) hF w E
  have KT := Lib.hid T
  clear T
  by_cases hs0 : s = []
  · have e3 := G3.out
    rw [if_pos (.inl hs0)] at e3
    subst e3
    go_wp2_with fail
    go_ret2
    exact ⟨rfl, below_trans hb1 (below_trans hb2 hb3)⟩
  · by_cases ht : textL (F2) = s
    · have e3 := G3.out
      rw [if_neg (by simp only [ne_eq, not_or, Decidable.not_not]; exact ⟨hs0, ht⟩)] at e3
      have E3 := Lib.hid e3
      clear e3
      have hse : s.isEmpty = false := by simp [hs0]
      have hq : (textL (F2) != s) = false := by simp [ht]
      have hq2 : (textL (F2) == s) = true := by simp [ht]
      clear ht
      go_wp2_with fail
      refine (KT.out _ (((E.below hb1).below hb2).below hb3)).mono ?_
      rintro e w5 ⟨rfl, hb5⟩
      go_wp2
      go_ret2
      rw [E3.out]
      exact ⟨rfl, below_trans hb1 (below_trans hb2 (below_trans hb3 hb5))⟩
    · have e3 := G3.out
      rw [if_pos (.inr ht)] at e3
      have E3 := Lib.hid e3
      clear e3
      have hse : s.isEmpty = false := by simp [hs0]
      have hq : (textL (F2) != s) = true := by simp [ht]
      have hq2 : (textL (F2) == s) = false := by simp [ht]
      clear ht
      go_wp2_with fail
      refine (KT.out _ (((E.below hb1).below hb2).below hb3)).mono ?_
      rintro e w5 ⟨rfl, hb5⟩
      go_wp2
      go_ret2
      rw [E3.out]
      exact ⟨rfl, below_trans hb1 (below_trans hb2 (below_trans hb3 hb5))⟩

set_option maxHeartbeats 2000000 in
set_option maxRecDepth 100000 in
theorem Parse_fin_true (s : List UInt8) (hs : s.length ≤ 1000) (hi : ¬ rest s = [105, 110, 102]) (hm : Lib.hasPrefix s [45] = true) (w : World) (E : Env w) :
    Calls Tryd.prog 12 #[.string ⟨s.toArray⟩] w fun e w' => e = .returned (.tuple #[.float .f64 (parseI s).1, .bool (parseI s).2]) ∧ Below w.heap.size w w' := by
  have HE := Lib.hid E
  have H1 := CutPrefix_L s [45] w
  have hr : (rest s).length ≤ 1000 := Nat.le_trans (trim_len _ _) hs
  have H2 := Cut_L (rest s) [112] w E (by omega)
  have hc1 := (cut_len (rest s) [112]).1
  have hc2 := (cut_len (rest s) [112]).2
  have H3 := fun w E => ParseUint53_L (Lib.cut (rest s) [112]).1 (by omega) w E
  have H4 := fun w E => Atoi_L (Lib.cut (rest s) [112]).2.1 (by omega) w E
  have hn := pu_le 10 9007199254740991 dig10 (Lib.cut (rest s) [112]).1 0 (by omega)
  have hp := atoiV_range (Lib.cut (rest s) [112]).2.1
  have H5 := fun w => Ldexp_of _ hn _ hp.1 hp.2 w
  have hf0 : f0 s = ofParts (pu 10 9007199254740991 dig10 0 (Lib.cut (rest s) [112]).1).1 (atoiV (Lib.cut (rest s) [112]).2.1) := rfl
  rw [← hf0] at H5
  have hf1 : f1 s = if rest s = [105, 110, 102] then 9218868437227405312 else f0 s := rfl
  have hf2 : f2 s = if Lib.hasPrefix s [45] then copysign (f1 s) 13830554455654793216 else f1 s := rfl
  have hfl : f0 s < 18446744073709551616 := ofParts_lt _ _
  have hpi : parseI s = if s = [] ∨ textL (f2 s) ≠ s then (0, false) else (f2 s, true) := rfl
  have hrs : Lib.trimPrefix s [45] = rest s := rfl
  rw [hrs] at H1
  generalize (pu 10 9007199254740991 dig10 0 (Lib.cut (rest s) [112]).1).1 = n at *
  generalize atoiV (Lib.cut (rest s) [112]).2.1 = p at *
  generalize (Lib.cut (rest s) [112]).1 = hd at *
  generalize (Lib.cut (rest s) [112]).2.1 = tl at *
  generalize (Lib.cut (rest s) [112]).2.2 = bb at *
  generalize parseI s = res at *
  generalize f2 s = F2 at *
  rw [if_neg hi] at hf1
  rw [hf1] at hf2
  generalize f0 s = F0 at *
  generalize rest s = rs at *
  generalize Lib.hasPrefix s [45] = minus at *
  subst hm
  have HI := Lib.hid hi
  clear hi
  have K1 := Lib.hid H1
  have K2 := Lib.hid H2
  have K3 := Lib.hid H3
  have K4 := Lib.hid H4
  have K5 := Lib.hid H5
  have G2 := Lib.hid hf2
  have G3 := Lib.hid hpi
  clear H1 H2 H3 H4 H5 hf0 hf1 hf2 hpi hrs hc1 hc2 hn hp hr
  go_enter Tryd.func12, Tryd.ntmps12
  go_wp2_with fail
  refine K1.out.mono ?_
  rintro e w' ⟨rfl, rfl⟩
  go_wp2_with fail
  refine K2.out.mono ?_
  rintro e w1 ⟨rfl, hb1⟩
  go_wp2_with fail
  refine (K3.out _ (E.below hb1)).mono ?_
  rintro e w2 ⟨⟨ev, rfl⟩, hb2⟩
  go_wp2_with fail
  refine (K4.out _ ((E.below hb1).below hb2)).mono ?_
  rintro e w3 ⟨⟨ev2, rfl⟩, hb3⟩
  go_wp2_with fail
  refine (K5.out _).mono ?_
  rintro e w4 ⟨rfl, rfl⟩
  clear HE
  have hib : (rs == [105, 110, 102]) = false := by simp [HI.out]
  clear HI K1 K2 K3 K4 K5
 
  -- inf 0, minus 1
  have e2 := G2.out
  rw [if_pos (by trivial)] at e2
  subst e2
  have G3 := G3
  have hF : copysign F0 13830554455654793216 < 18446744073709551616 := by unfold copysign; omega
  have T := fun w E => Text_any (copysign F0 13830554455654793216) hF w E
  have KT := Lib.hid T
  clear T
  by_cases hs0 : s = []
  · have e3 := G3.out
    rw [if_pos (.inl hs0)] at e3
    subst e3
    go_wp2_with fail
    refine (copysign_any _ _ hfl (by omega) _).mono ?_
    rintro e w' ⟨rfl, rfl⟩
    go_wp2_with fail
    go_ret2
    exact ⟨rfl, below_trans hb1 (below_trans hb2 hb3)⟩
  · by_cases ht : textL (copysign F0 13830554455654793216) = s
    · have e3 := G3.out
      rw [if_neg (by simp only [ne_eq, not_or, Decidable.not_not]; exact ⟨hs0, ht⟩)] at e3
      have E3 := Lib.hid e3
      clear e3
      have hse : s.isEmpty = false := by simp [hs0]
      have hq : (textL (copysign F0 13830554455654793216) != s) = false := by simp [ht]
      have hq2 : (textL (copysign F0 13830554455654793216) == s) = true := by simp [ht]
      clear ht
      go_wp2_with fail
      refine (copysign_any _ _ hfl (by omega) _).mono ?_
      rintro e w' ⟨rfl, rfl⟩
      go_wp2_with fail
      refine (KT.out _ (((E.below hb1).below hb2).below hb3)).mono ?_
      rintro e w5 ⟨rfl, hb5⟩
      go_wp2
      go_ret2
      rw [E3.out]
      exact ⟨rfl, below_trans hb1 (below_trans hb2 (below_trans hb3 hb5))⟩
    · have e3 := G3.out
      rw [if_pos (.inr ht)] at e3
      have E3 := Lib.hid e3
      clear e3
      have hse : s.isEmpty = false := by simp [hs0]
      have hq : (textL (copysign F0 13830554455654793216) != s) = true := by simp [ht]
      have hq2 : (textL (copysign F0 13830554455654793216) == s) = false := by simp [ht]
      clear ht
      go_wp2_with fail
      refine (copysign_any _ _ hfl (by omega) _).mono ?_
      rintro e w' ⟨rfl, rfl⟩
      go_wp2_with fail
      refine (KT.out _ (((E.below hb1).below hb2).below hb3)).mono ?_
      rintro e w5 ⟨rfl, hb5⟩
      go_wp2
      go_ret2
      rw [E3.out]
      exact ⟨rfl, below_trans hb1 (below_trans hb2 (below_trans hb3 hb5))⟩

theorem Parse_walk (s : List UInt8) (hs : s.length ≤ 1000) (w : World) (E : Env w) :
    Calls Tryd.prog 12 #[.string ⟨s.toArray⟩] w fun e w' => e = .returned (.tuple #[.float .f64 (parseI s).1, .bool (parseI s).2]) ∧ Below w.heap.size w w' := by
  by_cases hi : rest s = [105, 110, 102] <;> cases hm : Lib.hasPrefix s [45]
  · exact Parse_inf_false s hs hi hm w E
  · exact Parse_inf_true s hs hi hm w E
  · exact Parse_fin_false s hs hi hm w E
  · exact Parse_fin_true s hs hi hm w E
end Flo
end Go.Proofs.YtpcdncopdihcpaaDoor
