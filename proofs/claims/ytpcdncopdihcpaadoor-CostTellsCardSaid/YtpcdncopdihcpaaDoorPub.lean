/- The library's calls on numbers' texts, each with its value and 'Below': ParseUint (what the error is stays open), Atoi, Itoa, FormatUint, Cut; TrailingZeros64. -/
import Derived.Test.YtpcdncopdihcpaaDoorPu
import Derived.Test.YtpcdncopdihcpaaDoorEnv
import Derived.Outline
import Derived.Laws.Bits64b
import Derived.Lib.TrailingZeros
namespace Go.Proofs.YtpcdncopdihcpaaDoor
open Go.RowKit Go.Sort

theorem bytesWorld_below' {w w' : World} {t : TypeId} {s : ByteArray} (h : w' = Lib.bytesWorld w t s) : Below w.heap.size w w' := by subst h; exact Lib.bytesWorld_below _ _ _

set_option maxRecDepth 100000 in
theorem pu_empty (b z : Int) (w : World) :
    Calls Tryd.prog 65 #[.string ⟨#[]⟩, .int .i64 b, .int .i64 z] w fun e w' => e = .returned (.tuple #[.int .u64 0, .iface 103 (.int .i64 2)]) ∧ w = w' := by
  go_enter Tryd.func65, Tryd.ntmps65
  go_wp2
  go_ret2
  exact ⟨rfl, rfl⟩

/-- the public one, of what the inner one gives -/
theorem pub_of (s : ByteArray) (b z : Int) (v : Nat) (c : Int) (hc : c = 0 ∨ c = 1 ∨ c = 2) (hlim : s.size ≤ 281474976710656) (w : World) (E : Env w)
    (hI : Calls Tryd.prog 65 #[.string s, .int .i64 b, .int .i64 z] w fun e w' => e = .returned (puTuple (v, c)) ∧ Below w.heap.size w w') :
    Calls Tryd.prog 40 #[.string s, .int .i64 b, .int .i64 z] w fun e w' => (∃ ev, e = .returned (.tuple #[.int .u64 (v : Int), ev])) ∧ Below w.heap.size w w' := by
  have HI := Lib.hid hI
  clear hI
  rcases hc with rfl | rfl | rfl
  · go_enter Tryd.func40, Tryd.ntmps40
    go_wp2_with (go_at_call 65; refine HI.out.mono ?_)
    rintro e W1 ⟨rfl, hb⟩
    have HB := Lib.hid hb
    clear hb
    unfold puTuple puErr
    go_wp2
    go_ret2
    exact ⟨⟨_, rfl⟩, HB.out⟩
  · obtain ⟨tp, p, her⟩ := E.er
    have HE := Lib.hid her
    clear her
    go_enter Tryd.func40, Tryd.ntmps40
    go_wp2_with (go_at_call 65; refine HI.out.mono ?_)
    rintro e W1 ⟨rfl, hb⟩
    have her1 := cell_up hb (Nat.le_refl _) HE.out
    have HB := Lib.hid hb
    clear hb
    unfold puTuple puErr
    go_wp2_with (go_at_call 66; refine (Tryd.strconv_toError_range ⟨#[80, 97, 114, 115, 101, 85, 105, 110, 116]⟩ s b z _ _ hlim her1 (.inr ⟨_, _, rfl⟩)).mono ?_)
    rintro e W2 ⟨N, rfl, h1, h2, h3⟩
    go_wp2
    go_ret2
    exact ⟨⟨_, rfl⟩, below_trans HB.out h3⟩
  · obtain ⟨tp, p, her⟩ := E.es
    have HE := Lib.hid her
    clear her
    go_enter Tryd.func40, Tryd.ntmps40
    go_wp2_with (go_at_call 65; refine HI.out.mono ?_)
    rintro e W1 ⟨rfl, hb⟩
    have her1 := cell_up hb (Nat.le_refl _) HE.out
    have HB := Lib.hid hb
    clear hb
    unfold puTuple puErr
    go_wp2_with (go_at_call 66; refine (Tryd.strconv_toError_syntax ⟨#[80, 97, 114, 115, 101, 85, 105, 110, 116]⟩ s b z _ _ hlim her1 (.inr ⟨_, _, rfl⟩)).mono ?_)
    rintro e W2 ⟨N, rfl, h1, h2, h3⟩
    go_wp2
    go_ret2
    exact ⟨⟨_, rfl⟩, below_trans HB.out h3⟩

theorem ParseUint_10_53 (s : ByteArray) (hlim : s.size ≤ 281474976710656) (w : World) (E : Env w) :
    Calls Tryd.prog 40 #[.string s, .int .i64 10, .int .i64 53] w fun e w' => (∃ ev, e = .returned (.tuple #[.int .u64 ((pu 10 9007199254740991 dig10 0 s.data.toList).1 : Int), ev])) ∧ Below w.heap.size w w' := by
  by_cases h : s.size = 0
  · obtain rfl : s = ⟨#[]⟩ := by
      cases s with | mk d => simpa [ByteArray.size] using h
    exact pub_of _ 10 53 0 2 (.inr (.inr rfl)) hlim w E ((pu_empty 10 53 w).mono fun e w' ⟨he, hw⟩ => ⟨he, hw ▸ Below.refl _ _⟩)
  · exact pub_of _ 10 53 _ _ (pu_err _ _ _ _ _) hlim w E ((pu_10_53 s h (by omega) w).mono fun e w' ⟨he, hw⟩ => ⟨he, bytesWorld_below' hw⟩)
theorem ParseUint_10_16 (s : ByteArray) (hlim : s.size ≤ 281474976710656) (w : World) (E : Env w) :
    Calls Tryd.prog 40 #[.string s, .int .i64 10, .int .i64 16] w fun e w' => (∃ ev, e = .returned (.tuple #[.int .u64 ((pu 10 65535 dig10 0 s.data.toList).1 : Int), ev])) ∧ Below w.heap.size w w' := by
  by_cases h : s.size = 0
  · obtain rfl : s = ⟨#[]⟩ := by
      cases s with | mk d => simpa [ByteArray.size] using h
    exact pub_of _ 10 16 0 2 (.inr (.inr rfl)) hlim w E ((pu_empty 10 16 w).mono fun e w' ⟨he, hw⟩ => ⟨he, hw ▸ Below.refl _ _⟩)
  · exact pub_of _ 10 16 _ _ (pu_err _ _ _ _ _) hlim w E ((pu_10_16 s h (by omega) w).mono fun e w' ⟨he, hw⟩ => ⟨he, bytesWorld_below' hw⟩)

/-- the number that Atoi hands back -/
def atoiV (l : List UInt8) : Int := match Lib.atoiAll l with | .ok v => v | .range => Lib.atoiSat l | _ => 0
theorem Atoi_any (s : ByteArray) (hlim : s.size ≤ 281474976710656) (w : World) (E : Env w) :
    Calls Tryd.prog 41 #[.string s] w fun e w' => (∃ ev, e = .returned (.tuple #[.int .i64 (atoiV s.data.toList), ev])) ∧ Below w.heap.size w w' := by
  unfold atoiV
  cases h : Lib.atoiAll s.data.toList with
  | ok v =>
    refine (Tryd.strconv_Atoi_ok s (by omega) v h w).mono fun e w' ⟨he, hw⟩ => ⟨⟨_, he⟩, ?_⟩
    rcases hw with rfl | ⟨t, rfl⟩
    · exact Below.refl _ _
    · exact Lib.bytesWorld_below _ _ _
  | range =>
    obtain ⟨tp, p, her⟩ := E.er
    exact (Tryd.strconv_Atoi_range s hlim h _ w her (.inr ⟨_, _, rfl⟩)).mono fun e w' ⟨N, he, _, _, hw⟩ => ⟨⟨_, he⟩, hw⟩
  | _ =>
    obtain ⟨tp, p, her⟩ := E.es
    exact (Tryd.strconv_Atoi_syntax s hlim h _ w her (.inr ⟨_, _, rfl⟩)).mono fun e w' ⟨N, he, _, _, hw⟩ => ⟨⟨_, he⟩, hw⟩

theorem grow_below (w : World) (k : Nat) (os : Array Obj) : Below w.heap.size w (Sort.grow (w.drewN k) os) :=
  ⟨rfl, rfl, rfl, by simp [Sort.grow], fun i hi => by
    show (w.heap ++ os)[i]? = _
    rw [Array.getElem?_append_left hi]⟩
theorem Itoa_any (n : Int) (h0 : -9223372036854775808 ≤ n) (h1 : n ≤ 9223372036854775807) (w : World) (E : Env w) :
    Calls Tryd.prog 47 #[.int .i64 n] w fun e w' => e = .returned (.string ⟨(Lib.itoa n).toArray⟩) ∧ Below w.heap.size w w' :=
  (Tryd.strconv_Itoa n h0 h1 w E.pow).mono fun e w' ⟨he, k, os, hw⟩ => ⟨he, by subst hw; exact grow_below _ _ _⟩

theorem Cut_any (s sep : ByteArray) (w : World) (E : Env w) (hs : s.size < 4294967281) :
    Calls Tryd.prog 39 #[.string s, .string sep] w fun e w' => e = .returned (.tuple #[.string ⟨(Lib.cut s.data.toList sep.data.toList).1.toArray⟩, .string ⟨(Lib.cut s.data.toList sep.data.toList).2.1.toArray⟩, .bool (Lib.cut s.data.toList sep.data.toList).2.2]) ∧ Below w.heap.size w w' := by
  obtain ⟨m, hm⟩ := E.ml
  exact (Tryd.strings_Cut s sep m w hs hm).mono fun e w' ⟨he, n, hw⟩ => ⟨he, by subst hw; exact below_drewN' _ _⟩

set_option maxHeartbeats 1000000 in
set_option maxRecDepth 100000 in
theorem tz64_core (x k idx : Nat) (w : World) (hx0 : ((x : Int) == 0) = false)
    (key : IntKind.u64.wrap (bits BinOp.and IntKind.u64 (x : Int) (IntKind.u64.wrap (-(x : Int))) * 285870213051353865) / 288230376151711744 = (idx : Int))
    (hi : idx < 64) (hk : k < 64) (hcell : w.cell? ⟨1, idx, none⟩ = some (.int .u8 k)) :
    Calls Tryd.prog 36 #[.int .u64 x] w fun e w' => e = .returned (.int .i64 k) ∧ w' = w := by
  go_enter Tryd.func36, Tryd.ntmps36
  go_wp2_with (simp only [key])
  go_ret
  exact ⟨rfl, rfl⟩
theorem tz64_any (x : Nat) (hx : x < 18446744073709551616) (hx0 : x ≠ 0) (w : World) (E : Env w) :
    Calls Tryd.prog 36 #[.int .u64 x] w fun e w' => e = .returned (.int .i64 (Lib.ctz 64 x)) ∧ w = w' := by
  obtain ⟨hlow, hk⟩ := Lib.lowest_bit 64 x hx0 hx
  obtain ⟨hi, htab⟩ := Lib.deBruijn64_at _ hk
  have hcell := E.tz _ hi
  rw [htab] at hcell
  exact (tz64_core x _ _ w (by simp; omega) (tz64_key x _ hx hx0 hlow) hi hk hcell).mono fun e w' ⟨he, hw⟩ => ⟨he, hw.symm⟩

theorem holds_zero0 (w : World) (T : TypeId) (nd : Nat) (hs : nd ≤ 24) : Holds (fun (b : UInt8) => Value.int .u8 (b.toNat : Int)) (w.alloc (.cells Lib.zeros24 T)) w.heap.size 0 (Array.replicate nd (0 : UInt8)) := fun j hj => by
  have hj' : j < nd := by simpa using hj
  refine ⟨?_, World.frozen?_alloc_new _ _ _ _⟩
  rw [World.cell?_alloc_new, Lib.zeros24_at _ (by omega), getElem!_pos _ j hj]
  simp
theorem fin_pos0 (w : World) (o : Obj) (dk : Array UInt8) (k : Nat) : ∃ os, (Sort.putRow (fun (b : UInt8) => Value.int .u8 (b.toNat : Int)) (w.alloc o) w.heap.size 0 dk).drewN k = Sort.grow (w.drewN k) os := by
  rw [Sort.alloc_eq_grow]
  obtain ⟨os', _, e⟩ := Sort.putRow_grow_new (fun (b : UInt8) => Value.int .u8 (b.toNat : Int)) w #[o] w.heap.size 0 dk (Nat.le_refl _)
  exact ⟨os', by rw [e]; rfl⟩

set_option maxHeartbeats 6400000 in
set_option maxRecDepth 100000 in
/-- internal/strconv.FormatUint at base 10, after the shelf's walk of FormatInt -/
theorem FormatUint_in (u : Nat) (hu64 : u < 18446744073709551616) (w : World) (htab : Lib.TabIs Tryd.prog w "internal/strconv.uint64pow10" .u64 Lib.pow10Tab) :
    Calls Tryd.prog 68 #[.int .u64 u, .int .i64 10] w fun e w' => e = .returned (.string ⟨(Lib.decDigits u).toArray⟩) ∧ ∃ k os, w' = Sort.grow (w.drewN k) os := by
  by_cases hs : u < 100
  · go_enter Tryd.func68, Tryd.ntmps68
    go_wp2_with (go_at_call 90; refine (Tryd.internal_strconv_small u hs _).mono ?_; rintro e w' ⟨rfl, rfl⟩)
    go_ret
    exact ⟨rfl, 0, #[], by simp [World.drewN_zero]⟩
  · have hu1 : 1 ≤ u := by omega
    have hnd20 : Lib.nDigits u ≤ 20 := by have := Lib.numDigits_eq u hu1 hu64; split at this <;> omega
    have hal : Tryd.prog.arrayLen 111 = 24 := by kernel_rfl
    have hsl1 : ∀ W, (Instr.sliceAt 111 (.pointer (some ⟨w.heap.size, 0, none⟩)) none (some (.int .i64 (Lib.nDigits u : Int))) none).run Tryd.prog W = .ok (.slice (some ⟨w.heap.size, 0, none⟩) (Lib.nDigits u) 24) W := fun W => by
      rw [run_sliceAt_array_h W 111 ⟨w.heap.size, 0, none⟩ (by kernel_rfl) .i64 (Lib.nDigits u : Int) (by omega) (by rw [hal]; omega)]
      go_simp
    have hH0 := holds_zero0 w 111 (Lib.nDigits u) (by omega)
    have hfmt := Tryd.internal_strconv_formatBase10 w.heap.size 0 24 u (Array.replicate (Lib.nDigits u) 0) (w.alloc (.cells Lib.zeros24 111)) hH0 (by rw [Array.size_replicate]; exact Lib.lt_pow_nDigits u) hu64 (by rw [Array.size_replicate]; omega)
    rw [Array.size_replicate] at hfmt
    have HH0 := Lib.hid hH0
    clear hH0 hal
    go_enter Tryd.func68, Tryd.ntmps68
    go_wp2_with (first
      | (go_at_call 91; refine (Tryd.internal_strconv_numDigits u hu1 hu64 _ (Lib.tabIs_alloc htab _)).mono ?_; rintro e w' ⟨rfl, rfl⟩))
    go_at_call 92
    refine hfmt.mono ?_
    rintro e w' ⟨rfl, k, v', dk, rfl, hF⟩
    have hsl1 : ∀ W, (Instr.sliceAt 111 (.pointer (some ⟨w.heap.size, 0, none⟩)) none (some (.int .i64 (Lib.nDigits u : Int))) none).run Tryd.prog W = .ok (.slice (some ⟨w.heap.size, 0, none⟩) (Lib.nDigits u) 24) W := hsl1
    have hcv : (convert 85 9 (.slice (some ⟨w.heap.size, 0, none⟩) (Lib.nDigits u) 24)).run Tryd.prog ((putRow (fun (b : UInt8) => Value.int .u8 (b.toNat : Int)) (w.alloc (.cells Lib.zeros24 111)) w.heap.size 0 dk).drewN k) = .ok (.string ⟨(Lib.decDigits u).toArray⟩) ((putRow (fun (b : UInt8) => Value.int .u8 (b.toNat : Int)) (w.alloc (.cells Lib.zeros24 111)) w.heap.size 0 dk).drewN k) := by
      have h := run_convert_bytes_back (P := Tryd.prog) ((putRow (fun (b : UInt8) => Value.int .u8 (b.toNat : Int)) (w.alloc (.cells Lib.zeros24 111)) w.heap.size 0 dk).drewN k) 85 9 5 ⟨w.heap.size, 0, none⟩ 24 (Lib.decDigits u) Tryd.underlying85 Tryd.underlying5 Tryd.underlying9 (fun j hj => by
        rw [Lib.row_is_numeral hF j hj, Lib.add_plain, World.cell?_drewN]
        exact cell?_putRow (fun (b : UInt8) => Value.int .u8 (b.toNat : Int)) _ w.heap.size 0 _ dk HH0.out (by rw [hF.size, Array.size_replicate]) j (by rw [hF.size]; rw [Lib.decDigits_length] at hj; exact hj))
      rw [Lib.decDigits_length] at h
      exact h
    clear hF
    go_wp2
    go_ret
    obtain ⟨os, eo⟩ := fin_pos0 w (.cells Lib.zeros24 111) dk k
    exact ⟨rfl, k, os, eo⟩

set_option maxRecDepth 100000 in
theorem FormatUint_any (u : Nat) (hu64 : u < 18446744073709551616) (w : World) (E : Env w) :
    Calls Tryd.prog 46 #[.int .u64 u, .int .i64 10] w fun e w' => e = .returned (.string ⟨(Lib.decDigits u).toArray⟩) ∧ Below w.heap.size w w' := by
  have HI := Lib.hid (FormatUint_in u hu64 w E.pow)
  clear E
  go_enter Tryd.func46, Tryd.ntmps46
  go_wp2_with (go_at_call 68; refine HI.out.mono ?_; rintro e w' ⟨rfl, k, os, rfl⟩)
  go_ret
  exact ⟨rfl, grow_below _ _ _⟩
end Go.Proofs.YtpcdncopdihcpaaDoor
