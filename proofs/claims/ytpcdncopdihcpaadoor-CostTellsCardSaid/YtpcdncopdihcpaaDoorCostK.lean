/- The walk of the law CostTells. -/
import Derived.Test.YtpcdncopdihcpaaDoorCostE
import Derived.Test.YtpcdncopdihcpaaDoorCostL
namespace Go.Proofs.YtpcdncopdihcpaaDoor
open Go.RowKit
namespace Flo
open Ieee
attribute [local go_sem] fbits ffrom

set_option maxHeartbeats 1000000 in
set_option maxRecDepth 100000 in
theorem tells_long (b : Nat) (s : List UInt8) (hs : 300 < s.length) (w : World) (E : Env w) :
    Calls Tryd.prog 3 #[.int .u64 (b : Int), .string ⟨s.toArray⟩] w fun e w' => e = .returned (.bool true) ∧ Below w.heap.size w w' := by
  have K := Lib.hid (alive w E)
  go_enter Tryd.func3, Tryd.ntmps3
  go_wp2_with fail
  refine K.out.mono ?_
  rintro e w1 ⟨rfl, hb1⟩
  go_wp2
  go_ret
  exact ⟨rfl, hb1⟩

set_option maxHeartbeats 2000000 in
set_option maxRecDepth 100000 in
theorem tells_walk (b : Nat) (hb : b < 18446744073709551616) (s : List UInt8) (hs : s.length ≤ 300) (w : World) (E : Env w) :
    Calls Tryd.prog 3 #[.int .u64 (b : Int), .string ⟨s.toArray⟩] w fun e w' => e = .returned (.bool true) ∧ Below w.heap.size w w' := by
  have K := Lib.hid (alive w E)
  have K1 := Lib.hid (fun w E => Parts_any b hb w E)
  have K2 := Lib.hid (fun w => RParts_any b hb w)
  have K3 := Lib.hid (fun w E => Parse_walk s (by omega) w E)
  have K4 := Lib.hid (fun w => RParse_any s (by omega) w)
  have K5 := Lib.hid (fun w E => Text_any b hb w E)
  have K6 := Lib.hid (fun w => RText_any b hb w)
  have HP := Lib.hid (docP_parseI s)
  obtain ⟨mn, od, pw, hpt⟩ : ∃ mn od pw, parts b = (mn, od, pw) := ⟨_, _, _, rfl⟩
  have HT := Lib.hid hpt
  clear hpt
  obtain ⟨g, ok, hg⟩ : ∃ g ok, parseI s = (g, ok) := ⟨_, _, rfl⟩
  have HG := Lib.hid hg
  clear hg
  have K0 := Lib.hid (same_eq g g true (decide_eq_true rfl))
  have hl : ∀ (l : List UInt8), (l == l) = true := fun l => by simp
  have HL := Lib.hid (hl (textL b))
  clear hl
  generalize textL b = tx at *
  go_enter Tryd.func3, Tryd.ntmps3
  go_wp2_with fail
  refine K.out.mono ?_
  rintro e w1 ⟨rfl, hb1⟩
  go_wp2_with fail
  refine (K1.out _ (E.below hb1)).mono ?_
  rintro e w2 ⟨he, hb2⟩
  rw [HT.out] at he
  subst he
  unfold partsV
  go_wp2_with fail
  refine (K2.out _).mono ?_
  rintro e w3 ⟨he, hb3⟩
  rw [HT.out] at he
  subst he
  unfold partsV
  go_wp2_with fail
  refine (K3.out _ (((E.below hb1).below hb2).below hb3)).mono ?_
  rintro e w4 ⟨he, hb4⟩
  rw [HG.out] at he
  subst he
  go_wp2_with fail
  refine (K4.out _).mono ?_
  rintro e w5 ⟨he, hb5⟩
  rw [HP.out, HG.out] at he
  subst he
  have hbb := below_trans hb1 (below_trans hb2 (below_trans hb3 (below_trans hb4 hb5)))
  have E5 := Lib.hid (E.below hbb)
  have HB := Lib.hid hbb
  clear hb1 hb2 hb3 hb4 hb5 hbb
  go_wp2_with fail
  refine (K5.out _ E5.out).mono ?_
  rintro e w6 ⟨rfl, hb6⟩
  go_wp2_with fail
  refine (K6.out _).mono ?_
  rintro e w7 ⟨rfl, hb7⟩
  have hl := HL.out
  go_wp2_with fail
  refine (K0.out _).mono ?_
  rintro e w' ⟨rfl, rfl⟩
  go_wp2
  go_ret
  exact ⟨rfl, below_trans HB.out (below_trans hb6 hb7)⟩
theorem tells_any (b : Nat) (hb : b < 18446744073709551616) (s : List UInt8) (w : World) (E : Env w) :
    Calls Tryd.prog 3 #[.int .u64 (b : Int), .string ⟨s.toArray⟩] w fun e w' => e = .returned (.bool true) ∧ Below w.heap.size w w' := by
  by_cases h : 300 < s.length
  · exact tells_long b s h w E
  · exact tells_walk b hb s (by omega) w E
end Flo
end Go.Proofs.YtpcdncopdihcpaaDoor
