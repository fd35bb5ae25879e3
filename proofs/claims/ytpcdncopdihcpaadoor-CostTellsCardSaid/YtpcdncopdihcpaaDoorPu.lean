/- ParseUint at the sizes that the program asks for, as a function of the bytes. -/
import Derived.Test.YtpcdncopdihcpaaDoorShelf
import Derived.Outline
import Derived.Below
import Derived.Lib.Hide
import Derived.Lib.Strings
import Derived.Lib.Walk
import Derived.Lib.ConvBytes
import Derived.Lib.AtoiAllMem
import Derived.Laws.Strings3
import Derived.Laws.Closers25
import Derived.Laws.Closers25b
import Derived.WalkKit
import Derived.BigCall
import Derived.BigGuard
namespace Go.Proofs.YtpcdncopdihcpaaDoor
open Go.RowKit

/-- a digit of ten, of sixteen -/
def dig10 (c : UInt8) : Option Nat := if 48 ≤ c.toNat ∧ c.toNat ≤ 57 then some (c.toNat - 48) else none
def dig16 (c : UInt8) : Option Nat :=
  if 48 ≤ c.toNat ∧ c.toNat ≤ 57 then some (c.toNat - 48)
  else if 97 ≤ c.toNat ∧ c.toNat ≤ 102 then some (c.toNat - 87)
  else if 65 ≤ c.toNat ∧ c.toNat ≤ 70 then some (c.toNat - 55) else none

/-- what is read, and the error's number: 0 none, 1 out of range, 2 no number -/
def pu (base maxv : Nat) (dig : UInt8 → Option Nat) : Nat → List UInt8 → Nat × Int
  | acc, [] => (acc, 0)
  | acc, c :: l => match dig c with
    | none => (0, 2)
    | some d => if maxv < acc * base + d then (maxv, 1) else pu base maxv dig (acc * base + d) l
def puErr (c : Int) : Value := if c = 0 then .nilIface else .iface 103 (.int .i64 c)
def puTuple (r : Nat × Int) : Value := .tuple #[.int .u64 (r.1 : Int), puErr r.2]

theorem pu_le (base maxv : Nat) (dig : UInt8 → Option Nat) : ∀ (l : List UInt8) (acc : Nat), acc ≤ maxv → (pu base maxv dig acc l).1 ≤ maxv
  | [], acc, h => h
  | c :: l, acc, h => by
    unfold pu
    split
    · exact Nat.zero_le _
    · split
      · exact Nat.le_refl _
      · exact pu_le base maxv dig l _ (by omega)
theorem pu_err (base maxv : Nat) (dig : UInt8 → Option Nat) : ∀ (l : List UInt8) (acc : Nat), (pu base maxv dig acc l).2 = 0 ∨ (pu base maxv dig acc l).2 = 1 ∨ (pu base maxv dig acc l).2 = 2
  | [], acc => .inl rfl
  | c :: l, acc => by
    unfold pu
    split
    · exact .inr (.inr rfl)
    · split
      · exact .inr (.inl rfl)
      · exact pu_err base maxv dig l _

set_option maxHeartbeats 32000000 in
set_option maxRecDepth 100000 in
theorem pu_10_53 (t : ByteArray) (hne : t.size ≠ 0) (hmax : t.size ≤ 9223372036854775806) (w : World) :
    Calls Tryd.prog 65 #[.string t, .int .i64 10, .int .i64 53] w fun e w' => e = .returned (puTuple (pu 10 9007199254740991 dig10 0 t.data.toList)) ∧ w' = Lib.bytesWorld w 5 t := by
  have hemp : t.toList.isEmpty = false := by
    rw [← decide_eq_emptyBytes]
    exact decide_eq_false (fun h => hne (by rw [h]; rfl))
  have hcv := Lib.run_convert_string_bytes (P := Tryd.prog) w 9 85 5 t (u := .string) Tryd.underlying9 Tryd.underlying85 Tryd.underlying5
  have hB : ∀ j, j < t.size → (Lib.bytesWorld w 5 t).cell? ⟨w.heap.size, j, none⟩ = some (.int .u8 (t.data.toList.getD j 0).toNat) := fun j hj => Lib.bytesWorld_cell w 5 t j hj
  obtain ⟨W1, hW1⟩ : ∃ W1, W1 = Lib.bytesWorld w 5 t := ⟨_, rfl⟩
  rw [← hW1] at hcv hB ⊢
  clear hW1
  obtain ⟨bs, hL⟩ : ∃ bs, bs = t.data.toList := ⟨_, rfl⟩
  have hLn : bs.length = t.size := by rw [hL, Lib.size_eq]
  rw [← hL] at hB ⊢
  clear hL
  go_enter Tryd.func65, Tryd.ntmps65
  go_wp2
  go_loop [12, 13, 101] (fun vu vn vi => ∃ (k acc : Nat) (a : Int), vu = .bool false ∧ vn = .int .u64 a ∧ vi = .int .i64 k ∧ k ≤ t.size ∧ Hid (a = (acc : Int) ∧ acc ≤ 9007199254740991 ∧ pu 10 9007199254740991 dig10 0 bs = pu 10 9007199254740991 dig10 acc (bs.drop k)))
    (fun _ _ vi => t.size - (intOf vi).toNat)
  case atStart => exact ⟨0, 0, 0, rfl, rfl, rfl, by omega, rfl, by omega, rfl⟩
  case round =>
    obtain ⟨k, acc, a, rfl, rfl, rfl, hk, hh⟩ := hrel
    obtain ⟨ha, hacc, hdec⟩ := hh.out
    clear hh
    have a0 : 0 ≤ a := by omega
    have a1 : a ≤ 9007199254740991 := by omega
    by_cases hkn : k < t.size
    · have hc := hB k hkn
      have hdrop : bs.drop k = bs[k]'(by omega) :: bs.drop (k + 1) := List.drop_eq_getElem_cons (by omega)
      have hget : bs.getD k 0 = bs[k]'(by omega) := by simp [List.getD, List.getElem?_eq_getElem (show k < bs.length by omega)]
      rw [hdrop] at hdec
      rw [hget] at hc
      generalize bs[k]'(by omega) = c at hc hdec
      have hc256 : c.toNat < 256 := c.toNat_lt
      clear hB hdrop hget
      by_cases hdig : 48 ≤ c.toNat ∧ c.toNat ≤ 57
      · obtain ⟨hd0, hd1⟩ := hdig
        by_cases hov : 9007199254740991 < acc * 10 + (c.toNat - 48)
        · have hF : pu 10 9007199254740991 dig10 acc (c :: bs.drop (k + 1)) = (9007199254740991, 1) := by simp [pu, dig10, hd0, hd1, hov]
          rw [hF] at hdec
          have iov : 9007199254740991 < a * 10 + ((c.toNat : Int) - 48) := by omega
          clear hacc hF hov ha
          go_wp2
          go_ret2
          exact ⟨rfl, rfl⟩
        · have hF : pu 10 9007199254740991 dig10 acc (c :: bs.drop (k + 1)) = pu 10 9007199254740991 dig10 (acc * 10 + (c.toNat - 48)) (bs.drop (k + 1)) := by simp [pu, dig10, hd0, hd1, hov]
          have HN : Hid (a * 10 + ((c.toNat : Int) - 48) = ((acc * 10 + (c.toNat - 48) : Nat) : Int) ∧ acc * 10 + (c.toNat - 48) ≤ 9007199254740991 ∧ pu 10 9007199254740991 dig10 0 bs = pu 10 9007199254740991 dig10 (acc * 10 + (c.toNat - 48)) (bs.drop (k + 1))) := Lib.hid ⟨by omega, by omega, hdec.trans hF⟩
          have iov : a * 10 + ((c.toNat : Int) - 48) ≤ 9007199254740991 := by omega
          clear hacc hF hov hdec ha
          go_wp2
          refine ⟨⟨k + 1, acc * 10 + (c.toNat - 48), a * 10 + ((c.toNat : Int) - 48), rfl, (by first | rfl | (congr 1; omega)), (by first | rfl | (congr 1; omega)), by omega, HN⟩, by simp [intOf]; omega⟩
      · have hF : pu 10 9007199254740991 dig10 acc (c :: bs.drop (k + 1)) = (0, 2) := by simp [pu, dig10, hdig]
        rw [hF] at hdec
        clear hacc hF ha
        have hv0 := bits_lo_u8 .or (c.toNat : Int) 32
        have hv1 := bits_hi_u8 .or (c.toNat : Int) 32
        have hu0 := bits_lo_u8 .or 95 32
        have hu1 := bits_hi_u8 .or 95 32
        go_wp2_with (go_at_call 83; refine (Tryd.internal_strconv_lower _ _).mono ?_; rintro e w' ⟨rfl, rfl⟩)
        all_goals go_ret2
        all_goals first | exact ⟨rfl, rfl⟩ | exact ⟨by rw [hdec]; rfl, rfl⟩
    · have hkk : k = t.size := by omega
      subst hkk
      have hF : pu 10 9007199254740991 dig10 acc (bs.drop t.size) = (acc, 0) := by rw [List.drop_eq_nil_of_le (by omega)]; rfl
      rw [hF] at hdec
      subst ha
      clear hacc hF a0 a1
      go_wp2
      go_ret2
      exact ⟨rfl, rfl⟩

set_option maxHeartbeats 32000000 in
set_option maxRecDepth 100000 in
theorem pu_10_16 (t : ByteArray) (hne : t.size ≠ 0) (hmax : t.size ≤ 9223372036854775806) (w : World) :
    Calls Tryd.prog 65 #[.string t, .int .i64 10, .int .i64 16] w fun e w' => e = .returned (puTuple (pu 10 65535 dig10 0 t.data.toList)) ∧ w' = Lib.bytesWorld w 5 t := by
  have hemp : t.toList.isEmpty = false := by
    rw [← decide_eq_emptyBytes]
    exact decide_eq_false (fun h => hne (by rw [h]; rfl))
  have hcv := Lib.run_convert_string_bytes (P := Tryd.prog) w 9 85 5 t (u := .string) Tryd.underlying9 Tryd.underlying85 Tryd.underlying5
  have hB : ∀ j, j < t.size → (Lib.bytesWorld w 5 t).cell? ⟨w.heap.size, j, none⟩ = some (.int .u8 (t.data.toList.getD j 0).toNat) := fun j hj => Lib.bytesWorld_cell w 5 t j hj
  obtain ⟨W1, hW1⟩ : ∃ W1, W1 = Lib.bytesWorld w 5 t := ⟨_, rfl⟩
  rw [← hW1] at hcv hB ⊢
  clear hW1
  obtain ⟨bs, hL⟩ : ∃ bs, bs = t.data.toList := ⟨_, rfl⟩
  have hLn : bs.length = t.size := by rw [hL, Lib.size_eq]
  rw [← hL] at hB ⊢
  clear hL
  go_enter Tryd.func65, Tryd.ntmps65
  go_wp2
  go_loop [12, 13, 101] (fun vu vn vi => ∃ (k acc : Nat) (a : Int), vu = .bool false ∧ vn = .int .u64 a ∧ vi = .int .i64 k ∧ k ≤ t.size ∧ Hid (a = (acc : Int) ∧ acc ≤ 65535 ∧ pu 10 65535 dig10 0 bs = pu 10 65535 dig10 acc (bs.drop k)))
    (fun _ _ vi => t.size - (intOf vi).toNat)
  case atStart => exact ⟨0, 0, 0, rfl, rfl, rfl, by omega, rfl, by omega, rfl⟩
  case round =>
    obtain ⟨k, acc, a, rfl, rfl, rfl, hk, hh⟩ := hrel
    obtain ⟨ha, hacc, hdec⟩ := hh.out
    clear hh
    have a0 : 0 ≤ a := by omega
    have a1 : a ≤ 65535 := by omega
    by_cases hkn : k < t.size
    · have hc := hB k hkn
      have hdrop : bs.drop k = bs[k]'(by omega) :: bs.drop (k + 1) := List.drop_eq_getElem_cons (by omega)
      have hget : bs.getD k 0 = bs[k]'(by omega) := by simp [List.getD, List.getElem?_eq_getElem (show k < bs.length by omega)]
      rw [hdrop] at hdec
      rw [hget] at hc
      generalize bs[k]'(by omega) = c at hc hdec
      have hc256 : c.toNat < 256 := c.toNat_lt
      clear hB hdrop hget
      by_cases hdig : 48 ≤ c.toNat ∧ c.toNat ≤ 57
      · obtain ⟨hd0, hd1⟩ := hdig
        by_cases hov : 65535 < acc * 10 + (c.toNat - 48)
        · have hF : pu 10 65535 dig10 acc (c :: bs.drop (k + 1)) = (65535, 1) := by simp [pu, dig10, hd0, hd1, hov]
          rw [hF] at hdec
          have iov : 65535 < a * 10 + ((c.toNat : Int) - 48) := by omega
          clear hacc hF hov ha
          go_wp2
          go_ret2
          exact ⟨rfl, rfl⟩
        · have hF : pu 10 65535 dig10 acc (c :: bs.drop (k + 1)) = pu 10 65535 dig10 (acc * 10 + (c.toNat - 48)) (bs.drop (k + 1)) := by simp [pu, dig10, hd0, hd1, hov]
          have HN : Hid (a * 10 + ((c.toNat : Int) - 48) = ((acc * 10 + (c.toNat - 48) : Nat) : Int) ∧ acc * 10 + (c.toNat - 48) ≤ 65535 ∧ pu 10 65535 dig10 0 bs = pu 10 65535 dig10 (acc * 10 + (c.toNat - 48)) (bs.drop (k + 1))) := Lib.hid ⟨by omega, by omega, hdec.trans hF⟩
          have iov : a * 10 + ((c.toNat : Int) - 48) ≤ 65535 := by omega
          clear hacc hF hov hdec ha
          go_wp2
          refine ⟨⟨k + 1, acc * 10 + (c.toNat - 48), a * 10 + ((c.toNat : Int) - 48), rfl, (by first | rfl | (congr 1; omega)), (by first | rfl | (congr 1; omega)), by omega, HN⟩, by simp [intOf]; omega⟩
      · have hF : pu 10 65535 dig10 acc (c :: bs.drop (k + 1)) = (0, 2) := by simp [pu, dig10, hdig]
        rw [hF] at hdec
        clear hacc hF ha
        have hv0 := bits_lo_u8 .or (c.toNat : Int) 32
        have hv1 := bits_hi_u8 .or (c.toNat : Int) 32
        have hu0 := bits_lo_u8 .or 95 32
        have hu1 := bits_hi_u8 .or 95 32
        go_wp2_with (go_at_call 83; refine (Tryd.internal_strconv_lower _ _).mono ?_; rintro e w' ⟨rfl, rfl⟩)
        all_goals go_ret2
        all_goals first | exact ⟨rfl, rfl⟩ | exact ⟨by rw [hdec]; rfl, rfl⟩
    · have hkk : k = t.size := by omega
      subst hkk
      have hF : pu 10 65535 dig10 acc (bs.drop t.size) = (acc, 0) := by rw [List.drop_eq_nil_of_le (by omega)]; rfl
      rw [hF] at hdec
      subst ha
      clear hacc hF a0 a1
      go_wp2
      go_ret2
      exact ⟨rfl, rfl⟩
end Go.Proofs.YtpcdncopdihcpaaDoor
