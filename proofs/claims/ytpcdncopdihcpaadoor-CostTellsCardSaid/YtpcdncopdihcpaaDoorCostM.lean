/- The walk of the document's Parse. -/
import Derived.Test.YtpcdncopdihcpaaDoorCostD
namespace Go.Proofs.YtpcdncopdihcpaaDoor
open Go.RowKit
namespace Flo
open Ieee
attribute [local go_sem] fbits ffrom

theorem mul_sgn (neg : Bool) (r : Nat) (h0 : 0 < r) (h1 : r < 9218868437227405312) :
    FloatKind.f64.format.mul (if neg then 13830554455654793216 else 4607182418800017408) r = some (r + if neg then 9223372036854775808 else 0) := by
  show double.mul _ r = _
  have hy : r % 9223372036854775808 = r := Nat.mod_eq_of_lt (by omega)
  have e1 : double.read (if neg then 13830554455654793216 else 4607182418800017408) = .number neg 4503599627370496 (-52) := by cases neg <;> decide
  have e2 := read_fin r (by rw [hy]; exact h1)
  rw [hy, Nat.div_eq_of_lt (show r < 9223372036854775808 by omega)] at e2
  unfold Format.mul
  rw [e1, e2, show ((0 % 2 == 1 : Bool)) = false from rfl]
  simp only [Datum.product, Option.map_some, Format.write, Bool.xor_false]
  by_cases h : r < 4503599627370496
  · have hs : sig r = r := by unfold sig; rw [if_pos h]
    have hx : ex r = 0 := by unfold ex; omega
    rw [hs, hx]
    have hn := nearest_sub neg r 52 h
    rw [show (2 : Nat) ^ 52 = 4503599627370496 from by decide] at hn
    rw [Nat.mul_comm, show (-52 + (-1074 + ((0 : Nat) : Int))) = -1074 - ((52 : Nat) : Int) from by omega, hn]
    cases neg <;> simp only [Format.word, Bool.false_eq_true, if_false, if_true] <;> congr 1
    rw [sw]; omega
  · have hE : 1 ≤ r / 4503599627370496 := by omega
    have hE2 : r / 4503599627370496 ≤ 2046 := by omega
    have hs : sig r = 4503599627370496 + r % 4503599627370496 := by unfold sig; rw [if_neg h]
    have hx : ex r = r / 4503599627370496 - 1 := rfl
    rw [hs, hx]
    have hn := nearest_norm neg (4503599627370496 + r % 4503599627370496) 52 (-1074 + ((r / 4503599627370496 - 1 : Nat) : Int)) (by omega) (by omega) (by omega) (by omega)
    rw [show (2 : Nat) ^ 52 = 4503599627370496 from by decide] at hn
    rw [Nat.mul_comm, show (-52 + (-1074 + ((r / 4503599627370496 - 1 : Nat) : Int))) = -1074 + ((r / 4503599627370496 - 1 : Nat) : Int) - ((52 : Nat) : Int) from by omega, hn]
    cases neg <;> simp only [Format.word, Bool.false_eq_true, if_false, if_true] <;> congr 1
    · omega
    · rw [sw]; omega

def fl (k : Nat) : Nat := if k = 0 then 0 else if k = 1 then 9223372036854775808 else if k = 2 then 9218868437227405312 else 18442240474082181120
theorem fl_lt (k : Nat) : fl k < 18446744073709551616 := by unfold fl; split <;> (try split) <;> (try split) <;> omega

theorem cs0 (w : World) : Calls Tryd.prog 43 #[.float .f64 0, .float .f64 13830554455654793216] w fun e w' => e = .returned (.float .f64 9223372036854775808) ∧ w = w' := by
  have h := copysign_any 0 13830554455654793216 (by decide) (by decide) w
  rw [show copysign 0 13830554455654793216 = 9223372036854775808 from by decide +kernel] at h
  exact h

def docF (neg : Bool) (head tail : List UInt8) : Nat × Bool :=
  let mm := decide (1 < tail.length) && (tail.head? == some 45) && (tail != [45, 48])
  let t := if mm then tail.drop 1 else tail
  let p : Int := if mm then -((dgV t 4).1 : Int) else ((dgV t 4).1 : Int)
  if ((dgV head 16).2 && (dgV t 4).2 && (ofV (dgV head 16).1 p).2) = true then ((ofV (dgV head 16).1 p).1 + (if neg then 9223372036854775808 else 0), true) else (0, false)
def docR (neg : Bool) (r : List UInt8) : Nat × Bool :=
  match (cutc 112 r).2 with
  | none => (0, false)
  | some tail => docF neg (cutc 112 r).1 tail
def docS (s : List UInt8) : Nat × Bool := if s.head? = some 45 then docR true (s.drop 1) else docR false s
def docP (s : List UInt8) : Nat × Bool :=
  if textL (fl 0) = s then (fl 0, true) else if textL (fl 1) = s then (fl 1, true) else if textL (fl 2) = s then (fl 2, true) else if textL (fl 3) = s then (fl 3, true) else docS s
theorem docP_hit (s : List UInt8) (k : Nat) (hk : k < 4) (hno : ∀ j, j < k → textL (fl j) ≠ s) (h : textL (fl k) = s) : docP s = (fl k, true) := by
  unfold docP
  match k, hk, hno, h with
  | 0, _, _, h => rw [if_pos h]
  | 1, _, hno, h => rw [if_neg (hno 0 (by omega)), if_pos h]
  | 2, _, hno, h => rw [if_neg (hno 0 (by omega)), if_neg (hno 1 (by omega)), if_pos h]
  | 3, _, hno, h => rw [if_neg (hno 0 (by omega)), if_neg (hno 1 (by omega)), if_neg (hno 2 (by omega)), if_pos h]
theorem docP_miss (s : List UInt8) (hno : ∀ j, j < 4 → textL (fl j) ≠ s) : docP s = docS s := by
  unfold docP
  rw [if_neg (hno 0 (by omega)), if_neg (hno 1 (by omega)), if_neg (hno 2 (by omega)), if_neg (hno 3 (by omega))]

theorem ext_drop (l : List UInt8) (i : Nat) : (⟨l.toArray⟩ : ByteArray).extract i l.length = ⟨(l.drop i).toArray⟩ := by
  apply ByteArray.ext
  simp only [ByteArray.data_extract, List.extract_toArray, List.extract_eq_take_drop]
  rw [List.take_of_length_le (by rw [List.length_drop]; omega)]
theorem ext_take (l : List UInt8) (i : Nat) : (⟨l.toArray⟩ : ByteArray).extract 0 i = ⟨(l.take i).toArray⟩ := by
  apply ByteArray.ext
  simp [ByteArray.data_extract]
def docG (neg : Bool) (A B : Nat × Bool) (p : Int) : Nat × Bool :=
  if (A.2 && B.2 && (ofV A.1 p).2) = true then ((ofV A.1 p).1 + (if neg then 9223372036854775808 else 0), true) else (0, false)
theorem docF_neg (neg : Bool) (hd t' : List UInt8) (h1 : 1 < (45 :: t').length) (h2 : (45 :: t' : List UInt8) ≠ [45, 48]) : docF neg hd (45 :: t') = docG neg (dgV hd 16) (dgV t' 4) (-((dgV t' 4).1 : Int)) := by
  unfold docF docG
  rw [show (decide (1 < (45 :: t').length) && ((45 :: t' : List UInt8).head? == some 45) && ((45 :: t' : List UInt8) != [45, 48])) = true from by
    rw [decide_eq_true h1, bne_iff_ne.2 h2]; rfl]
  rfl
theorem docF_pos (neg : Bool) (hd tl : List UInt8) (h : tl.length ≤ 1 ∨ (∃ h : 0 < tl.length, tl[0] ≠ 45) ∨ tl = [45, 48]) : docF neg hd tl = docG neg (dgV hd 16) (dgV tl 4) ((dgV tl 4).1 : Int) := by
  unfold docF docG
  have hm : (decide (1 < tl.length) && (tl.head? == some 45) && (tl != [45, 48])) = false := by
    rcases h with h | ⟨h, h2⟩ | h
    · rw [decide_eq_false (by omega)]; rfl
    · cases tl with
      | nil => cases h
      | cons c l =>
        have : ((c :: l : List UInt8).head? == some 45) = false := by
          rw [beq_eq_false_iff_ne]
          intro hc
          injection hc with hc
          exact h2 hc
        rw [this, Bool.and_false]; rfl
    · rw [h]; decide
  rw [hm]
  rfl
theorem tail_cases (tl : List UInt8) : (∃ t', tl = 45 :: t' ∧ 1 < tl.length ∧ tl ≠ [45, 48]) ∨ (tl.length ≤ 1 ∨ (∃ h : 1 < tl.length, tl[0] ≠ 45) ∨ tl = [45, 48]) := by
  by_cases h1 : tl.length ≤ 1
  · exact .inr (.inl h1)
  · by_cases h2 : tl = [45, 48]
    · exact .inr (.inr (.inr h2))
    · cases tl with
      | nil => exact .inr (.inl (by simp))
      | cons c l =>
        by_cases h3 : c = 45
        · exact .inl ⟨l, by rw [h3], by omega, h2⟩
        · exact .inr (.inr (.inl ⟨by omega, h3⟩))
theorem dgV_lt (s : List UInt8) (most : Nat) (h : most ≤ 16) : (dgV s most).1 ≤ 9999999999999999 := by
  unfold dgV
  split
  · simp
  · split
    · have := vl_bound s (by assumption) (by omega)
      simpa using this
    · simp
theorem dgV_4 (s : List UInt8) : (dgV s 4).1 ≤ 9999 := by
  unfold dgV
  split
  · simp
  · split
    · have h1 := vl_lt s (by assumption)
      have h2 : 10 ^ s.length ≤ 10 ^ 4 := Nat.pow_le_pow_right (by omega) (by omega)
      show vl s ≤ 9999
      omega
    · simp
theorem nrm_pos : ∀ (n m : Nat) (p : Int), 1 ≤ m → m < 9007199254740992 → 1 ≤ (nrm n m p).1 ∧ (nrm n m p).1 < 9007199254740992
  | 0, m, p, h1, h2 => ⟨h1, h2⟩
  | n + 1, m, p, h1, h2 => by
    rw [nrm]
    split
    · exact nrm_pos n _ _ (by omega) (by omega)
    · exact ⟨h1, h2⟩
theorem nrm_pow : ∀ (n m : Nat) (p : Int), -1074 ≤ p → -1074 ≤ (nrm n m p).2
  | 0, m, p, h1 => h1
  | n + 1, m, p, h1 => by
    rw [nrm]
    split
    · exact nrm_pow n _ _ (by omega)
    · exact h1
theorem ofV_fit (m : Nat) (p : Int) (h : (ofV m p).2 = true) : 0 < (ofV m p).1 ∧ (ofV m p).1 < 9218868437227405312 := by
  unfold ofV at h ⊢
  split
  · rename_i h1; rw [if_pos h1] at h; cases h
  · rename_i h1
    rw [if_neg h1] at h
    simp only [not_or] at h1
    have n1 := nrm_pos 53 m p (by omega) (by omega)
    have n2 := nrm_pow 53 m p (by omega)
    split
    · rename_i h2; rw [if_pos h2] at h; cases h
    · split
      · exact ⟨by show 0 < (nrm 53 m p).1; omega, by show (nrm 53 m p).1 < _; omega⟩
      · exact ⟨by show 0 < Int.toNat _; omega, by show Int.toNat _ < _; omega⟩
--TAIL
set_option maxHeartbeats 2000000 in
set_option maxRecDepth 100000 in
theorem RParse_minus (r : List UInt8) (hs : r.length ≤ 1000) (w : World) :
    Calls Tryd.prog 13 #[.string ⟨(45 :: r).toArray⟩] w fun e w' => e = .returned (.tuple #[.float .f64 (docP (45 :: r)).1, .bool (docP (45 :: r)).2]) ∧ Below w.heap.size w w' := by
  have hS : docS (45 :: r) = docR true r := by unfold docS; exact if_pos rfl
  have hz : (⟨(45 :: r).toArray⟩ : ByteArray).size = r.length + 1 := by simp [ByteArray.size]
  have hb0 : ((⟨(45 :: r).toArray⟩ : ByteArray)[0]'(by omega)).toNat = 45 := rfl
  have EX := Lib.hid (show (⟨(45 :: r).toArray⟩ : ByteArray).extract 1 (r.length + 1) = ⟨r.toArray⟩ from ext_drop (45 :: r) 1)
  have HT := Lib.hid (fun k (w : World) => RText_any (fl k) (fl_lt k) w)
  have H1 := Lib.hid (docP_hit (45 :: r))
  have H2 := Lib.hid (fun hno => (docP_miss (45 :: r) hno).trans hS)
  clear hS
  generalize docP (45 :: r) = D at *
  have C1 := Lib.hid cs0
  have C2 := Lib.hid inf_pos
  have C3 := Lib.hid inf_neg
  go_enter Tryd.func13, Tryd.ntmps13
  go_wp2_with fail
  refine (C1.out _).mono ?_
  rintro e w1 ⟨rfl, rfl⟩
  go_wp2_with fail
  refine (C2.out _).mono ?_
  rintro e w1 ⟨rfl, rfl⟩
  go_wp2_with fail
  refine (C3.out _).mono ?_
  rintro e w1 ⟨rfl, rfl⟩
  go_wp2
  clear C1 C2 C3
  go_loopw [22] (fun iv wr => ∃ k : Nat, k ≤ 4 ∧ iv = .int .i64 (k : Int) ∧ Hid (∀ j, j < 4 → wr.cell? ⟨w.heap.size, j, none⟩ = some (.float .f64 (fl j))) ∧ Below w.heap.size w wr ∧ Hid (∀ j, j < k → textL (fl j) ≠ 45 :: r)) (fun iv _ => 4 - (intOf iv).toNat)
  case atStart =>
    refine ⟨0, by omega, rfl, Lib.hid ?_, below_alloc' _ _, Lib.hid (fun j hj => by omega)⟩
    intro j hj
    rw [World.cell?_alloc_new]
    match j, hj with
    | 0, _ => rfl
    | 1, _ => rfl
    | 2, _ => rfl
    | 3, _ => rfl
  case round =>
    obtain ⟨k, hk, rfl, hc, hb, hno⟩ := hrel
    by_cases hk4 : k < 4
    · have hck := hc.out k hk4
      go_wp2_with fail
      refine (HT.out k _).mono ?_
      rintro e w1 ⟨rfl, hb1⟩
      have hcc := Lib.hid (fun j hj => cell_up hb1 (Nat.le_refl _) (hc.out j hj))
      clear hc hck
      by_cases hq : textL (fl k) = 45 :: r
      · have hD := H1.out k hk4 hno.out hq
        have hq2 : ((45 :: r) == textL (fl k)) = true := by rw [hq]; simp
        have HD := Lib.hid hD
        clear hD hno hq
        go_wp2
        go_ret2
        rw [HD.out]
        exact ⟨rfl, below_trans hb hb1⟩
      · have hq2 : ((45 :: r) == textL (fl k)) = false := by rw [beq_eq_false_iff_ne]; exact fun h => hq h.symm
        have HN := Lib.hid (show ∀ j, j < k + 1 → textL (fl j) ≠ 45 :: r from fun j hj => by
          rcases Nat.lt_succ_iff_lt_or_eq.1 hj with h | h
          · exact hno.out j h
          · rw [h]; exact hq)
        clear hq hno
        go_wp2
        go_roundw
        case rel => exact ⟨k + 1, by omega, rfl, hcc, below_trans hb hb1, HN⟩
        case measure => simp [intOf]; omega
    · obtain rfl : k = 4 := by omega
      have HD := Lib.hid (H2.out hno.out)
      clear hno hc H1 H2 HT
      go_wp2
      rw [EX.out]
      clear EX hb0 hz
      have hr0 : (⟨(r).toArray⟩ : ByteArray).size = (r).length := by simp [ByteArray.size]
      all_goals
      go_loop [8] (fun iv => ∃ i : Nat, i ≤ (r).length ∧ iv = .int .i64 (i : Int) ∧ Hid ((112 : UInt8) ∉ (r).take i)) (fun iv => (r).length - (intOf iv).toNat)
      case atStart => exact ⟨0, by omega, rfl, Lib.hid (by simp)⟩
      case round =>
      obtain ⟨i, hi, rfl, hno⟩ := hrel
      by_cases hii : i < (r).length
      · have hbt := byte_at (r) i hii (by omega)
        by_cases hc : (r)[i]'hii = 112
        · have hc2 : ((⟨(r).toArray⟩ : ByteArray)[i]'(by omega)).toNat = 112 := by rw [hbt, hc]; rfl
          obtain ⟨hd, hhd⟩ : ∃ hd, hd = (r).take i := ⟨_, rfl⟩
          obtain ⟨tl, htl⟩ : ∃ tl, tl = (r).drop (i + 1) := ⟨_, rfl⟩
          have hsp : r = hd ++ 112 :: tl := by
            rw [hhd, htl, ← hc, List.getElem_cons_drop, List.take_append_drop]
          have hD : D = docF true hd tl := by
            rw [HD.out]
            have h1 := cutc_of 112 hd tl (by rw [hhd]; exact hno.out)
            unfold docR
            rw [hsp, h1]
          have e1 : (⟨(r).toArray⟩ : ByteArray).extract (i + 1) (r).length = ⟨tl.toArray⟩ := by
            rw [htl]; exact ext_drop _ _
          have e2 : (⟨(r).toArray⟩ : ByteArray).extract 0 i = ⟨hd.toArray⟩ := by
            rw [hhd]; exact ext_take _ _
          have lt1 : tl.length + i + 1 = (r).length := by rw [htl, List.length_drop]; omega
          have hz2 : (⟨tl.toArray⟩ : ByteArray).size = tl.length := by simp [ByteArray.size]
          have HZ2 := Lib.hid hz2
          have HD2 := Lib.hid hD
          clear hD HD hhd htl hsp hno hbt hc
          rcases tail_cases tl with ⟨t', htl, g1, g3⟩ | hm
          · have hD3 := HD2.out
            have e3 : (⟨tl.toArray⟩ : ByteArray).extract 1 tl.length = ⟨t'.toArray⟩ := by rw [htl]; exact ext_drop (45 :: t') 1
            have g2 : ((⟨tl.toArray⟩ : ByteArray)[0]'(by omega)).toNat = 45 := by rw [byte_at tl 0 (by omega)]; subst htl; rfl
            have g4 : (tl == [45, 48]) = false := by rw [beq_eq_false_iff_ne]; exact g3
            rw [htl, docF_neg _ _ _ (by rw [← htl]; exact g1) (by rw [← htl]; exact g3)] at hD3
            have HD := Lib.hid hD3
            clear hD3 HD2 htl g3 HZ2
            have K1 := Lib.hid (fun w => digits_any hd 16 (by omega) w)
            have K2 := Lib.hid (fun w => digits_any t' 4 (by omega) w)
            have b1 := dgV_lt hd 16 (by omega)
            have b2 := dgV_4 t'
            generalize dgV hd 16 = A at *
            generalize dgV t' 4 = B at *
            obtain ⟨m, ok⟩ := A
            obtain ⟨n, is⟩ := B
            have K3 := Lib.hid (fun p w => of_any m p (by simp only at b1; omega) w)
            simp only at b1 b2 HD K1 K2
            go_wp2_with fail
            refine (K1.out _).mono ?_
            rintro e w1 ⟨rfl, hb1⟩
            go_wp2_with fail
            refine (K2.out _).mono ?_
            rintro e w2 ⟨rfl, hb2⟩
            go_wp2_with fail
            refine (K3.out _ _).mono ?_
            rintro e w3 ⟨rfl, hb3⟩
            have HO := Lib.hid (fun h => ofV_fit m (-(n : Int)) h)
            have hd0 := HD.out
            unfold docG at hd0
            simp only at hd0
            clear HD
            generalize ofV m (-(n : Int)) = F at *
            obtain ⟨f, fits⟩ := F
            have HD := Lib.hid hd0
            clear hd0
            have hB := Lib.hid (below_trans (below_trans (below_trans hb hb1) hb2) hb3)
            clear hb hb1 hb2 hb3 K1 K2 K3
            simp only at HO
            cases ok <;> cases is <;> cases fits
            all_goals first
              | (clear HO
                 go_wp2
                 go_ret2
                 rw [HD.out]
                 exact ⟨rfl, hB.out⟩)
              | (obtain ⟨f0, f1⟩ := HO.out rfl
                 have hm : FloatKind.f64.format.mul 13830554455654793216 f = some (f + 9223372036854775808) := mul_sgn true f f0 f1
                 clear f0 f1 HO
                 go_wp2
                 rw [fmul hm]
                 clear hm
                 go_simp
                 go_wp2
                 go_ret2
                 rw [HD.out]
                 exact ⟨rfl, hB.out⟩)
          · have hD3 := HD2.out
            rw [docF_pos _ _ _ (by
              rcases hm with h | ⟨h, h2⟩ | h
              · exact .inl h
              · exact .inr (.inl ⟨by omega, h2⟩)
              · exact .inr (.inr h))] at hD3
            have HD := Lib.hid hD3
            clear hD3 HD2 HZ2
            rcases hm with g1 | ⟨g1, g2⟩ | g1
            · skip
              have K1 := Lib.hid (fun w => digits_any hd 16 (by omega) w)
              have K2 := Lib.hid (fun w => digits_any tl 4 (by omega) w)
              have b1 := dgV_lt hd 16 (by omega)
              have b2 := dgV_4 tl
              generalize dgV hd 16 = A at *
              generalize dgV tl 4 = B at *
              obtain ⟨m, ok⟩ := A
              obtain ⟨n, is⟩ := B
              have K3 := Lib.hid (fun p w => of_any m p (by simp only at b1; omega) w)
              simp only at b1 b2 HD K1 K2
              go_wp2_with fail
              refine (K1.out _).mono ?_
              rintro e w1 ⟨rfl, hb1⟩
              go_wp2_with fail
              refine (K2.out _).mono ?_
              rintro e w2 ⟨rfl, hb2⟩
              go_wp2_with fail
              refine (K3.out _ _).mono ?_
              rintro e w3 ⟨rfl, hb3⟩
              have HO := Lib.hid (fun h => ofV_fit m ((n : Int)) h)
              have hd0 := HD.out
              unfold docG at hd0
              simp only at hd0
              clear HD
              generalize ofV m ((n : Int)) = F at *
              obtain ⟨f, fits⟩ := F
              have HD := Lib.hid hd0
              clear hd0
              have hB := Lib.hid (below_trans (below_trans (below_trans hb hb1) hb2) hb3)
              clear hb hb1 hb2 hb3 K1 K2 K3
              simp only at HO
              cases ok <;> cases is <;> cases fits
              all_goals first
                | (clear HO
                   go_wp2
                   go_ret2
                   rw [HD.out]
                   exact ⟨rfl, hB.out⟩)
                | (obtain ⟨f0, f1⟩ := HO.out rfl
                   have hm : FloatKind.f64.format.mul 13830554455654793216 f = some (f + 9223372036854775808) := mul_sgn true f f0 f1
                   clear f0 f1 HO
                   go_wp2
                   rw [fmul hm]
                   clear hm
                   go_simp
                   go_wp2
                   go_ret2
                   rw [HD.out]
                   exact ⟨rfl, hB.out⟩)
            · have g3 : (((⟨tl.toArray⟩ : ByteArray)[0]'(by omega)).toNat : Int) ≠ 45 := by
                rw [byte_at tl 0 (by omega)]
                intro h
                exact g2 (UInt8.toNat_inj.1 (by have e : (45 : UInt8).toNat = 45 := rfl; rw [e]; omega))
              have g4 : (((⟨tl.toArray⟩ : ByteArray)[0]'(by omega)).toNat == 45) = false := by rw [beq_eq_false_iff_ne]; omega
              clear g2
              have K1 := Lib.hid (fun w => digits_any hd 16 (by omega) w)
              have K2 := Lib.hid (fun w => digits_any tl 4 (by omega) w)
              have b1 := dgV_lt hd 16 (by omega)
              have b2 := dgV_4 tl
              generalize dgV hd 16 = A at *
              generalize dgV tl 4 = B at *
              obtain ⟨m, ok⟩ := A
              obtain ⟨n, is⟩ := B
              have K3 := Lib.hid (fun p w => of_any m p (by simp only at b1; omega) w)
              simp only at b1 b2 HD K1 K2
              go_wp2_with fail
              refine (K1.out _).mono ?_
              rintro e w1 ⟨rfl, hb1⟩
              go_wp2_with fail
              refine (K2.out _).mono ?_
              rintro e w2 ⟨rfl, hb2⟩
              go_wp2_with fail
              refine (K3.out _ _).mono ?_
              rintro e w3 ⟨rfl, hb3⟩
              have HO := Lib.hid (fun h => ofV_fit m ((n : Int)) h)
              have hd0 := HD.out
              unfold docG at hd0
              simp only at hd0
              clear HD
              generalize ofV m ((n : Int)) = F at *
              obtain ⟨f, fits⟩ := F
              have HD := Lib.hid hd0
              clear hd0
              have hB := Lib.hid (below_trans (below_trans (below_trans hb hb1) hb2) hb3)
              clear hb hb1 hb2 hb3 K1 K2 K3
              simp only at HO
              cases ok <;> cases is <;> cases fits
              all_goals first
                | (clear HO
                   go_wp2
                   go_ret2
                   rw [HD.out]
                   exact ⟨rfl, hB.out⟩)
                | (obtain ⟨f0, f1⟩ := HO.out rfl
                   have hm : FloatKind.f64.format.mul 13830554455654793216 f = some (f + 9223372036854775808) := mul_sgn true f f0 f1
                   clear f0 f1 HO
                   go_wp2
                   rw [fmul hm]
                   clear hm
                   go_simp
                   go_wp2
                   go_ret2
                   rw [HD.out]
                   exact ⟨rfl, hB.out⟩)
            · have g4 : tl.length = 2 := by rw [g1]; rfl
              have g2 : ((⟨tl.toArray⟩ : ByteArray)[0]'(by omega)).toNat = 45 := by rw [byte_at tl 0 (by omega)]; subst g1; rfl
              have g3 : (tl == [45, 48]) = true := by rw [g1]; decide
              clear g1
              have K1 := Lib.hid (fun w => digits_any hd 16 (by omega) w)
              have K2 := Lib.hid (fun w => digits_any tl 4 (by omega) w)
              have b1 := dgV_lt hd 16 (by omega)
              have b2 := dgV_4 tl
              generalize dgV hd 16 = A at *
              generalize dgV tl 4 = B at *
              obtain ⟨m, ok⟩ := A
              obtain ⟨n, is⟩ := B
              have K3 := Lib.hid (fun p w => of_any m p (by simp only at b1; omega) w)
              simp only at b1 b2 HD K1 K2
              go_wp2_with fail
              refine (K1.out _).mono ?_
              rintro e w1 ⟨rfl, hb1⟩
              go_wp2_with fail
              refine (K2.out _).mono ?_
              rintro e w2 ⟨rfl, hb2⟩
              go_wp2_with fail
              refine (K3.out _ _).mono ?_
              rintro e w3 ⟨rfl, hb3⟩
              have HO := Lib.hid (fun h => ofV_fit m ((n : Int)) h)
              have hd0 := HD.out
              unfold docG at hd0
              simp only at hd0
              clear HD
              generalize ofV m ((n : Int)) = F at *
              obtain ⟨f, fits⟩ := F
              have HD := Lib.hid hd0
              clear hd0
              have hB := Lib.hid (below_trans (below_trans (below_trans hb hb1) hb2) hb3)
              clear hb hb1 hb2 hb3 K1 K2 K3
              simp only at HO
              cases ok <;> cases is <;> cases fits
              all_goals first
                | (clear HO
                   go_wp2
                   go_ret2
                   rw [HD.out]
                   exact ⟨rfl, hB.out⟩)
                | (obtain ⟨f0, f1⟩ := HO.out rfl
                   have hm : FloatKind.f64.format.mul 13830554455654793216 f = some (f + 9223372036854775808) := mul_sgn true f f0 f1
                   clear f0 f1 HO
                   go_wp2
                   rw [fmul hm]
                   clear hm
                   go_simp
                   go_wp2
                   go_ret2
                   rw [HD.out]
                   exact ⟨rfl, hB.out⟩)
        · have hc2 : ((((⟨(r).toArray⟩ : ByteArray)[i]'(by omega)).toNat : Int) != 112) = true := by
            rw [hbt, bne_iff_ne]
            intro h
            exact hc (UInt8.toNat_inj.1 (by have e : (112 : UInt8).toNat = 112 := rfl; rw [e]; omega))
          have HN := Lib.hid (show (112 : UInt8) ∉ (r).take (i + 1) from by
            rw [take_snoc _ _ hii, List.mem_append, List.mem_singleton]
            rintro (h | h)
            · exact hno.out h
            · exact hc h.symm)
          clear hno hbt hc
          go_wp2
          go_round
          case rel => exact ⟨i + 1, by omega, rfl, HN⟩
          case measure => simp [intOf]; omega
      · obtain rfl : i = (r).length := by omega
        have hD : D = (0, false) := by
          have h1 := hno.out
          rw [List.take_length] at h1
          rw [HD.out]
          unfold docR
          rw [cutc_no 112 _ h1]
        have HD2 := Lib.hid hD
        clear hD HD hno
        go_wp2
        go_ret2
        rw [HD2.out]
        exact ⟨rfl, hb⟩

set_option maxHeartbeats 2000000 in
set_option maxRecDepth 100000 in
theorem RParse_plus (s : List UInt8) (hs : s.length ≤ 1000) (h0 : 0 < s.length) (hm : s.head? ≠ some 45) (w : World) :
    Calls Tryd.prog 13 #[.string ⟨(s).toArray⟩] w fun e w' => e = .returned (.tuple #[.float .f64 (docP (s)).1, .bool (docP (s)).2]) ∧ Below w.heap.size w w' := by
  have hS : docS s = docR false s := by unfold docS; exact if_neg hm
  have hz : (⟨s.toArray⟩ : ByteArray).size = s.length := by simp [ByteArray.size]
  have hb0 : (((⟨s.toArray⟩ : ByteArray)[0]'(by omega)).toNat == 45) = false := by
    rw [byte_at s 0 h0, beq_eq_false_iff_ne]
    intro hc
    apply hm
    cases s with
    | nil => cases h0
    | cons c l => exact congrArg some (UInt8.toNat_inj.1 hc)
  clear hm
  have HT := Lib.hid (fun k (w : World) => RText_any (fl k) (fl_lt k) w)
  have H1 := Lib.hid (docP_hit (s))
  have H2 := Lib.hid (fun hno => (docP_miss (s) hno).trans hS)
  clear hS
  generalize docP (s) = D at *
  have C1 := Lib.hid cs0
  have C2 := Lib.hid inf_pos
  have C3 := Lib.hid inf_neg
  go_enter Tryd.func13, Tryd.ntmps13
  go_wp2_with fail
  refine (C1.out _).mono ?_
  rintro e w1 ⟨rfl, rfl⟩
  go_wp2_with fail
  refine (C2.out _).mono ?_
  rintro e w1 ⟨rfl, rfl⟩
  go_wp2_with fail
  refine (C3.out _).mono ?_
  rintro e w1 ⟨rfl, rfl⟩
  go_wp2
  clear C1 C2 C3
  go_loopw [22] (fun iv wr => ∃ k : Nat, k ≤ 4 ∧ iv = .int .i64 (k : Int) ∧ Hid (∀ j, j < 4 → wr.cell? ⟨w.heap.size, j, none⟩ = some (.float .f64 (fl j))) ∧ Below w.heap.size w wr ∧ Hid (∀ j, j < k → textL (fl j) ≠ s)) (fun iv _ => 4 - (intOf iv).toNat)
  case atStart =>
    refine ⟨0, by omega, rfl, Lib.hid ?_, below_alloc' _ _, Lib.hid (fun j hj => by omega)⟩
    intro j hj
    rw [World.cell?_alloc_new]
    match j, hj with
    | 0, _ => rfl
    | 1, _ => rfl
    | 2, _ => rfl
    | 3, _ => rfl
  case round =>
    obtain ⟨k, hk, rfl, hc, hb, hno⟩ := hrel
    by_cases hk4 : k < 4
    · have hck := hc.out k hk4
      go_wp2_with fail
      refine (HT.out k _).mono ?_
      rintro e w1 ⟨rfl, hb1⟩
      have hcc := Lib.hid (fun j hj => cell_up hb1 (Nat.le_refl _) (hc.out j hj))
      clear hc hck
      by_cases hq : textL (fl k) = s
      · have hD := H1.out k hk4 hno.out hq
        have hq2 : ((s) == textL (fl k)) = true := by rw [hq]; simp
        have HD := Lib.hid hD
        clear hD hno hq
        go_wp2
        go_ret2
        rw [HD.out]
        exact ⟨rfl, below_trans hb hb1⟩
      · have hq2 : ((s) == textL (fl k)) = false := by rw [beq_eq_false_iff_ne]; exact fun h => hq h.symm
        have HN := Lib.hid (show ∀ j, j < k + 1 → textL (fl j) ≠ s from fun j hj => by
          rcases Nat.lt_succ_iff_lt_or_eq.1 hj with h | h
          · exact hno.out j h
          · rw [h]; exact hq)
        clear hq hno
        go_wp2
        go_roundw
        case rel => exact ⟨k + 1, by omega, rfl, hcc, below_trans hb hb1, HN⟩
        case measure => simp [intOf]; omega
    · obtain rfl : k = 4 := by omega
      have HD := Lib.hid (H2.out hno.out)
      clear hno hc H1 H2 HT
      go_wp2
      clear hb0
      have hr0 : (⟨(s).toArray⟩ : ByteArray).size = (s).length := by simp [ByteArray.size]
      all_goals
      go_loop [8] (fun iv => ∃ i : Nat, i ≤ (s).length ∧ iv = .int .i64 (i : Int) ∧ Hid ((112 : UInt8) ∉ (s).take i)) (fun iv => (s).length - (intOf iv).toNat)
      case atStart => exact ⟨0, by omega, rfl, Lib.hid (by simp)⟩
      case round =>
      obtain ⟨i, hi, rfl, hno⟩ := hrel
      by_cases hii : i < (s).length
      · have hbt := byte_at (s) i hii (by omega)
        by_cases hc : (s)[i]'hii = 112
        · have hc2 : ((⟨(s).toArray⟩ : ByteArray)[i]'(by omega)).toNat = 112 := by rw [hbt, hc]; rfl
          obtain ⟨hd, hhd⟩ : ∃ hd, hd = (s).take i := ⟨_, rfl⟩
          obtain ⟨tl, htl⟩ : ∃ tl, tl = (s).drop (i + 1) := ⟨_, rfl⟩
          have hsp : s = hd ++ 112 :: tl := by
            rw [hhd, htl, ← hc, List.getElem_cons_drop, List.take_append_drop]
          have hD : D = docF false hd tl := by
            rw [HD.out]
            have h1 := cutc_of 112 hd tl (by rw [hhd]; exact hno.out)
            unfold docR
            rw [hsp, h1]
          have e1 : (⟨(s).toArray⟩ : ByteArray).extract (i + 1) (s).length = ⟨tl.toArray⟩ := by
            rw [htl]; exact ext_drop _ _
          have e2 : (⟨(s).toArray⟩ : ByteArray).extract 0 i = ⟨hd.toArray⟩ := by
            rw [hhd]; exact ext_take _ _
          have lt1 : tl.length + i + 1 = (s).length := by rw [htl, List.length_drop]; omega
          have hz2 : (⟨tl.toArray⟩ : ByteArray).size = tl.length := by simp [ByteArray.size]
          have HZ2 := Lib.hid hz2
          have HD2 := Lib.hid hD
          clear hD HD hhd htl hsp hno hbt hc
          rcases tail_cases tl with ⟨t', htl, g1, g3⟩ | hm
          · have hD3 := HD2.out
            have e3 : (⟨tl.toArray⟩ : ByteArray).extract 1 tl.length = ⟨t'.toArray⟩ := by rw [htl]; exact ext_drop (45 :: t') 1
            have g2 : ((⟨tl.toArray⟩ : ByteArray)[0]'(by omega)).toNat = 45 := by rw [byte_at tl 0 (by omega)]; subst htl; rfl
            have g4 : (tl == [45, 48]) = false := by rw [beq_eq_false_iff_ne]; exact g3
            rw [htl, docF_neg _ _ _ (by rw [← htl]; exact g1) (by rw [← htl]; exact g3)] at hD3
            have HD := Lib.hid hD3
            clear hD3 HD2 htl g3 HZ2
            have K1 := Lib.hid (fun w => digits_any hd 16 (by omega) w)
            have K2 := Lib.hid (fun w => digits_any t' 4 (by omega) w)
            have b1 := dgV_lt hd 16 (by omega)
            have b2 := dgV_4 t'
            generalize dgV hd 16 = A at *
            generalize dgV t' 4 = B at *
            obtain ⟨m, ok⟩ := A
            obtain ⟨n, is⟩ := B
            have K3 := Lib.hid (fun p w => of_any m p (by simp only at b1; omega) w)
            simp only at b1 b2 HD K1 K2
            go_wp2_with fail
            refine (K1.out _).mono ?_
            rintro e w1 ⟨rfl, hb1⟩
            go_wp2_with fail
            refine (K2.out _).mono ?_
            rintro e w2 ⟨rfl, hb2⟩
            go_wp2_with fail
            refine (K3.out _ _).mono ?_
            rintro e w3 ⟨rfl, hb3⟩
            have HO := Lib.hid (fun h => ofV_fit m (-(n : Int)) h)
            have hd0 := HD.out
            unfold docG at hd0
            simp only at hd0
            clear HD
            generalize ofV m (-(n : Int)) = F at *
            obtain ⟨f, fits⟩ := F
            have HD := Lib.hid hd0
            clear hd0
            have hB := Lib.hid (below_trans (below_trans (below_trans hb hb1) hb2) hb3)
            clear hb hb1 hb2 hb3 K1 K2 K3
            simp only at HO
            cases ok <;> cases is <;> cases fits
            all_goals first
              | (clear HO
                 go_wp2
                 go_ret2
                 rw [HD.out]
                 exact ⟨rfl, hB.out⟩)
              | (obtain ⟨f0, f1⟩ := HO.out rfl
                 have hm : FloatKind.f64.format.mul 4607182418800017408 f = some (f + 0) := mul_sgn false f f0 f1
                 clear f0 f1 HO
                 go_wp2
                 rw [fmul hm]
                 clear hm
                 go_simp
                 go_wp2
                 go_ret2
                 rw [HD.out]
                 exact ⟨rfl, hB.out⟩)
          · have hD3 := HD2.out
            rw [docF_pos _ _ _ (by
              rcases hm with h | ⟨h, h2⟩ | h
              · exact .inl h
              · exact .inr (.inl ⟨by omega, h2⟩)
              · exact .inr (.inr h))] at hD3
            have HD := Lib.hid hD3
            clear hD3 HD2 HZ2
            rcases hm with g1 | ⟨g1, g2⟩ | g1
            · skip
              have K1 := Lib.hid (fun w => digits_any hd 16 (by omega) w)
              have K2 := Lib.hid (fun w => digits_any tl 4 (by omega) w)
              have b1 := dgV_lt hd 16 (by omega)
              have b2 := dgV_4 tl
              generalize dgV hd 16 = A at *
              generalize dgV tl 4 = B at *
              obtain ⟨m, ok⟩ := A
              obtain ⟨n, is⟩ := B
              have K3 := Lib.hid (fun p w => of_any m p (by simp only at b1; omega) w)
              simp only at b1 b2 HD K1 K2
              go_wp2_with fail
              refine (K1.out _).mono ?_
              rintro e w1 ⟨rfl, hb1⟩
              go_wp2_with fail
              refine (K2.out _).mono ?_
              rintro e w2 ⟨rfl, hb2⟩
              go_wp2_with fail
              refine (K3.out _ _).mono ?_
              rintro e w3 ⟨rfl, hb3⟩
              have HO := Lib.hid (fun h => ofV_fit m ((n : Int)) h)
              have hd0 := HD.out
              unfold docG at hd0
              simp only at hd0
              clear HD
              generalize ofV m ((n : Int)) = F at *
              obtain ⟨f, fits⟩ := F
              have HD := Lib.hid hd0
              clear hd0
              have hB := Lib.hid (below_trans (below_trans (below_trans hb hb1) hb2) hb3)
              clear hb hb1 hb2 hb3 K1 K2 K3
              simp only at HO
              cases ok <;> cases is <;> cases fits
              all_goals first
                | (clear HO
                   go_wp2
                   go_ret2
                   rw [HD.out]
                   exact ⟨rfl, hB.out⟩)
                | (obtain ⟨f0, f1⟩ := HO.out rfl
                   have hm : FloatKind.f64.format.mul 4607182418800017408 f = some (f + 0) := mul_sgn false f f0 f1
                   clear f0 f1 HO
                   go_wp2
                   rw [fmul hm]
                   clear hm
                   go_simp
                   go_wp2
                   go_ret2
                   rw [HD.out]
                   exact ⟨rfl, hB.out⟩)
            · have g3 : (((⟨tl.toArray⟩ : ByteArray)[0]'(by omega)).toNat : Int) ≠ 45 := by
                rw [byte_at tl 0 (by omega)]
                intro h
                exact g2 (UInt8.toNat_inj.1 (by have e : (45 : UInt8).toNat = 45 := rfl; rw [e]; omega))
              have g4 : (((⟨tl.toArray⟩ : ByteArray)[0]'(by omega)).toNat == 45) = false := by rw [beq_eq_false_iff_ne]; omega
              clear g2
              have K1 := Lib.hid (fun w => digits_any hd 16 (by omega) w)
              have K2 := Lib.hid (fun w => digits_any tl 4 (by omega) w)
              have b1 := dgV_lt hd 16 (by omega)
              have b2 := dgV_4 tl
              generalize dgV hd 16 = A at *
              generalize dgV tl 4 = B at *
              obtain ⟨m, ok⟩ := A
              obtain ⟨n, is⟩ := B
              have K3 := Lib.hid (fun p w => of_any m p (by simp only at b1; omega) w)
              simp only at b1 b2 HD K1 K2
              go_wp2_with fail
              refine (K1.out _).mono ?_
              rintro e w1 ⟨rfl, hb1⟩
              go_wp2_with fail
              refine (K2.out _).mono ?_
              rintro e w2 ⟨rfl, hb2⟩
              go_wp2_with fail
              refine (K3.out _ _).mono ?_
              rintro e w3 ⟨rfl, hb3⟩
              have HO := Lib.hid (fun h => ofV_fit m ((n : Int)) h)
              have hd0 := HD.out
              unfold docG at hd0
              simp only at hd0
              clear HD
              generalize ofV m ((n : Int)) = F at *
              obtain ⟨f, fits⟩ := F
              have HD := Lib.hid hd0
              clear hd0
              have hB := Lib.hid (below_trans (below_trans (below_trans hb hb1) hb2) hb3)
              clear hb hb1 hb2 hb3 K1 K2 K3
              simp only at HO
              cases ok <;> cases is <;> cases fits
              all_goals first
                | (clear HO
                   go_wp2
                   go_ret2
                   rw [HD.out]
                   exact ⟨rfl, hB.out⟩)
                | (obtain ⟨f0, f1⟩ := HO.out rfl
                   have hm : FloatKind.f64.format.mul 4607182418800017408 f = some (f + 0) := mul_sgn false f f0 f1
                   clear f0 f1 HO
                   go_wp2
                   rw [fmul hm]
                   clear hm
                   go_simp
                   go_wp2
                   go_ret2
                   rw [HD.out]
                   exact ⟨rfl, hB.out⟩)
            · have g4 : tl.length = 2 := by rw [g1]; rfl
              have g2 : ((⟨tl.toArray⟩ : ByteArray)[0]'(by omega)).toNat = 45 := by rw [byte_at tl 0 (by omega)]; subst g1; rfl
              have g3 : (tl == [45, 48]) = true := by rw [g1]; decide
              clear g1
              have K1 := Lib.hid (fun w => digits_any hd 16 (by omega) w)
              have K2 := Lib.hid (fun w => digits_any tl 4 (by omega) w)
              have b1 := dgV_lt hd 16 (by omega)
              have b2 := dgV_4 tl
              generalize dgV hd 16 = A at *
              generalize dgV tl 4 = B at *
              obtain ⟨m, ok⟩ := A
              obtain ⟨n, is⟩ := B
              have K3 := Lib.hid (fun p w => of_any m p (by simp only at b1; omega) w)
              simp only at b1 b2 HD K1 K2
              go_wp2_with fail
              refine (K1.out _).mono ?_
              rintro e w1 ⟨rfl, hb1⟩
              go_wp2_with fail
              refine (K2.out _).mono ?_
              rintro e w2 ⟨rfl, hb2⟩
              go_wp2_with fail
              refine (K3.out _ _).mono ?_
              rintro e w3 ⟨rfl, hb3⟩
              have HO := Lib.hid (fun h => ofV_fit m ((n : Int)) h)
              have hd0 := HD.out
              unfold docG at hd0
              simp only at hd0
              clear HD
              generalize ofV m ((n : Int)) = F at *
              obtain ⟨f, fits⟩ := F
              have HD := Lib.hid hd0
              clear hd0
              have hB := Lib.hid (below_trans (below_trans (below_trans hb hb1) hb2) hb3)
              clear hb hb1 hb2 hb3 K1 K2 K3
              simp only at HO
              cases ok <;> cases is <;> cases fits
              all_goals first
                | (clear HO
                   go_wp2
                   go_ret2
                   rw [HD.out]
                   exact ⟨rfl, hB.out⟩)
                | (obtain ⟨f0, f1⟩ := HO.out rfl
                   have hm : FloatKind.f64.format.mul 4607182418800017408 f = some (f + 0) := mul_sgn false f f0 f1
                   clear f0 f1 HO
                   go_wp2
                   rw [fmul hm]
                   clear hm
                   go_simp
                   go_wp2
                   go_ret2
                   rw [HD.out]
                   exact ⟨rfl, hB.out⟩)
        · have hc2 : ((((⟨(s).toArray⟩ : ByteArray)[i]'(by omega)).toNat : Int) != 112) = true := by
            rw [hbt, bne_iff_ne]
            intro h
            exact hc (UInt8.toNat_inj.1 (by have e : (112 : UInt8).toNat = 112 := rfl; rw [e]; omega))
          have HN := Lib.hid (show (112 : UInt8) ∉ (s).take (i + 1) from by
            rw [take_snoc _ _ hii, List.mem_append, List.mem_singleton]
            rintro (h | h)
            · exact hno.out h
            · exact hc h.symm)
          clear hno hbt hc
          go_wp2
          go_round
          case rel => exact ⟨i + 1, by omega, rfl, HN⟩
          case measure => simp [intOf]; omega
      · obtain rfl : i = (s).length := by omega
        have hD : D = (0, false) := by
          have h1 := hno.out
          rw [List.take_length] at h1
          rw [HD.out]
          unfold docR
          rw [cutc_no 112 _ h1]
        have HD2 := Lib.hid hD
        clear hD HD hno
        go_wp2
        go_ret2
        rw [HD2.out]
        exact ⟨rfl, hb⟩

set_option maxHeartbeats 2000000 in
set_option maxRecDepth 100000 in
theorem RParse_nil  (w : World) :
    Calls Tryd.prog 13 #[.string ⟨([]).toArray⟩] w fun e w' => e = .returned (.tuple #[.float .f64 (docP ([])).1, .bool (docP ([])).2]) ∧ Below w.heap.size w w' := by
  have hS : docS [] = (0, false) := rfl
  have hz : (⟨([] : List UInt8).toArray⟩ : ByteArray).size = 0 := rfl
  have HT := Lib.hid (fun k (w : World) => RText_any (fl k) (fl_lt k) w)
  have H1 := Lib.hid (docP_hit ([]))
  have H2 := Lib.hid (fun hno => (docP_miss ([]) hno).trans hS)
  clear hS
  generalize docP ([]) = D at *
  have C1 := Lib.hid cs0
  have C2 := Lib.hid inf_pos
  have C3 := Lib.hid inf_neg
  go_enter Tryd.func13, Tryd.ntmps13
  go_wp2_with fail
  refine (C1.out _).mono ?_
  rintro e w1 ⟨rfl, rfl⟩
  go_wp2_with fail
  refine (C2.out _).mono ?_
  rintro e w1 ⟨rfl, rfl⟩
  go_wp2_with fail
  refine (C3.out _).mono ?_
  rintro e w1 ⟨rfl, rfl⟩
  go_wp2
  clear C1 C2 C3
  go_loopw [22] (fun iv wr => ∃ k : Nat, k ≤ 4 ∧ iv = .int .i64 (k : Int) ∧ Hid (∀ j, j < 4 → wr.cell? ⟨w.heap.size, j, none⟩ = some (.float .f64 (fl j))) ∧ Below w.heap.size w wr ∧ Hid (∀ j, j < k → textL (fl j) ≠ [])) (fun iv _ => 4 - (intOf iv).toNat)
  case atStart =>
    refine ⟨0, by omega, rfl, Lib.hid ?_, below_alloc' _ _, Lib.hid (fun j hj => by omega)⟩
    intro j hj
    rw [World.cell?_alloc_new]
    match j, hj with
    | 0, _ => rfl
    | 1, _ => rfl
    | 2, _ => rfl
    | 3, _ => rfl
  case round =>
    obtain ⟨k, hk, rfl, hc, hb, hno⟩ := hrel
    by_cases hk4 : k < 4
    · have hck := hc.out k hk4
      go_wp2_with fail
      refine (HT.out k _).mono ?_
      rintro e w1 ⟨rfl, hb1⟩
      have hcc := Lib.hid (fun j hj => cell_up hb1 (Nat.le_refl _) (hc.out j hj))
      clear hc hck
      by_cases hq : textL (fl k) = []
      · have hD := H1.out k hk4 hno.out hq
        have hq2 : (([]) == textL (fl k)) = true := by rw [hq]; simp
        have HD := Lib.hid hD
        clear hD hno hq
        go_wp2
        go_ret2
        rw [HD.out]
        exact ⟨rfl, below_trans hb hb1⟩
      · have hq2 : (([]) == textL (fl k)) = false := by rw [beq_eq_false_iff_ne]; exact fun h => hq h.symm
        have HN := Lib.hid (show ∀ j, j < k + 1 → textL (fl j) ≠ [] from fun j hj => by
          rcases Nat.lt_succ_iff_lt_or_eq.1 hj with h | h
          · exact hno.out j h
          · rw [h]; exact hq)
        clear hq hno
        go_wp2
        go_roundw
        case rel => exact ⟨k + 1, by omega, rfl, hcc, below_trans hb hb1, HN⟩
        case measure => simp [intOf]; omega
    · obtain rfl : k = 4 := by omega
      have HD := Lib.hid (H2.out hno.out)
      clear hno hc H1 H2 HT
      go_wp2
      go_loop [8] (fun iv => iv = .int .i64 0) (fun _ => 0)
      case atStart => rfl
      case round =>
      obtain rfl := hrel
      go_wp2
      go_ret2
      rw [HD.out]
      exact ⟨rfl, hb⟩
theorem RParse_any (s : List UInt8) (hs : s.length ≤ 1000) (w : World) :
    Calls Tryd.prog 13 #[.string ⟨s.toArray⟩] w fun e w' => e = .returned (.tuple #[.float .f64 (docP s).1, .bool (docP s).2]) ∧ Below w.heap.size w w' := by
  cases s with
  | nil => exact RParse_nil w
  | cons c l =>
    by_cases h : c = 45
    · subst h
      exact RParse_minus l (by simp at hs; omega) w
    · exact RParse_plus (c :: l) hs (by simp) (by simpa using h) w
end Flo
end Go.Proofs.YtpcdncopdihcpaaDoor
