/- The document's Dec. -/
import Derived.Test.YtgpljjejfebhoaaDoorTxt
import Derived.Laws.BytesArg
namespace Go.Proofs.YtgpljjejfebhoaaDoor
open Go.RowKit Go.Kx Go.Val
set_option maxRecDepth 100000
/-- the digits ahead of the last ones -/
def preD (m : Nat) : List UInt8 := if m = 0 then [] else Lib.decDigits m
theorem preD_step {m : Nat} (h : 0 < m) : preD m = preD (m / 10) ++ [UInt8.ofNat (48 + m % 10)] := by
  unfold preD
  rw [if_neg (by omega)]
  by_cases h10 : m < 10
  · rw [if_pos (by omega), Lib.decDigits, dif_pos h10, List.nil_append, Nat.mod_eq_of_lt h10]
  · rw [if_neg (by omega)]
    conv => lhs; rw [Lib.decDigits, dif_neg h10]
theorem dec_first (m : Nat) : Lib.decDigits m = preD (m / 10) ++ [UInt8.ofNat (48 + m % 10)] := by
  by_cases h : 0 < m
  · rw [← preD_step h]; unfold preD; rw [if_neg (by omega)]
  · obtain rfl : m = 0 := by omega
    rw [Lib.decDigits, dif_pos (by omega)]
    rfl
/-- a digit's letter -/
def digC (x : Int) : UInt8 := UInt8.ofNat x.toNat
theorem run_digit (w : World) (x : Int) :
    (convert 65 9 (.slice (some ⟨w.heap.size, 0, none⟩) 1 1)).run Tryd.prog (w.alloc (.cells #[.int .u8 x] 5)) = .ok (.string ⟨#[digC x]⟩) (w.alloc (.cells #[.int .u8 x] 5)) := by
  have h := run_convert_bytes_arg (P := Tryd.prog) (w.alloc (.cells #[.int .u8 x] 5)) 65 5 Tryd.underlying65 Tryd.underlying5 w.heap.size 0 1 1 [x] rfl (fun i hi => by
    obtain rfl : i = 0 := by omega
    simp) 9 Tryd.underlying9
  exact h
theorem byte_eq (m : Nat) : digC (48 + (m : Int) % 10) = UInt8.ofNat (48 + m % 10) := by
  unfold digC; congr 1
theorem decDigits_len (N : Nat) (h : N ≤ 9223372036854775808) : (Lib.decDigits N).length ≤ 20 := by
  rw [Lib.decDigits_length]; exact Lib.nDigits_le20 N (by omega)
theorem dec_pos (N : Nat) (h : N ≤ 9223372036854775807) (w : World) : Calls Tryd.prog 42 #[.int .i64 N] w fun e w' => e = .returned (.string ⟨(Lib.decDigits N).toArray⟩) ∧ Only [] w w' := by
  have hm : IntKind.u8.wrap (48 + (N : Int) % 10) = 48 + (N : Int) % 10 := by rw [IntKind.wrap_u8]; omega
  have hr := run_digit
  have hN := Lib.hid h
  go_enter Tryd.func42, Tryd.ntmps42
  go_wp2_with (fail)
  go_loopw [0, 3] (fun n s wr => ∃ (m : Nat) (l : List UInt8), n = .int .i64 m ∧ s = .string ⟨l.toArray⟩ ∧ Hid (preD m ++ l = Lib.decDigits N) ∧ m ≤ N ∧ Only [] w wr) (fun n _ _ => (intOf n).toNat)
  case atStart => exact ⟨N / 10, [digC (48 + (N : Int) % 10)], rfl, rfl, Lib.hid (by rw [byte_eq]; exact (dec_first N).symm), by omega, (Only.refl [] w).alloc _⟩
  case round =>
    obtain ⟨m, l, rfl, rfl, hl, hm2, ho⟩ := hrel
    have HO := Lib.hid ho
    clear ho hm
    have hm : IntKind.u8.wrap (48 + (m : Int) % 10) = 48 + (m : Int) % 10 := by rw [IntKind.wrap_u8]; omega
    have hll : l.length ≤ 20 := by
      have h1 := decDigits_len N (by have := hN.out; omega)
      rw [← hl.out, List.length_append] at h1; omega
    by_cases h0 : 0 < m
    · go_wp2_with (fail)
      go_roundw
      case rel => exact ⟨m / 10, digC (48 + (m : Int) % 10) :: l, rfl, by rw [str_app]; simp, Lib.hid (by rw [← hl.out, preD_step h0, byte_eq]; simp), by omega, HO.out.alloc _⟩
      case measure => simp [intOf]; omega
    · have e0 : m = 0 := by omega
      go_wp2_with (fail)
      go_ret
      exact ⟨by rw [← hl.out, e0]; simp [preD], HO.out⟩
theorem dec_neg (N : Nat) (h0 : 0 < N) (h : N ≤ 9223372036854775808) (w : World) : Calls Tryd.prog 42 #[.int .i64 (-(N : Int))] w fun e w' => e = .returned (.string ⟨(45 :: Lib.decDigits N).toArray⟩) ∧ Only [] w w' := by
  have hr := run_digit
  have hN := Lib.hid h
  go_enter Tryd.func42, Tryd.ntmps42
  go_wp2_with (fail)
  go_loopw [0, 4] (fun n s wr => ∃ (m : Nat) (l : List UInt8), n = .int .i64 (-(m : Int)) ∧ s = .string ⟨l.toArray⟩ ∧ Hid (preD m ++ l = Lib.decDigits N) ∧ m ≤ N ∧ Only [] w wr) (fun n _ _ => (intOf n).natAbs)
  case atStart => exact ⟨N / 10, [digC (48 + (N : Int) % 10)], by first | rfl | (congr 1; omega), rfl, Lib.hid (by rw [byte_eq]; exact (dec_first N).symm), by omega, (Only.refl [] w).alloc _⟩
  case round =>
    obtain ⟨m, l, rfl, rfl, hl, hm2, ho⟩ := hrel
    have HO := Lib.hid ho
    clear ho
    have hm : IntKind.u8.wrap (48 + (m : Int) % 10) = 48 + (m : Int) % 10 := by rw [IntKind.wrap_u8]; omega
    have hll : l.length ≤ 20 := by
      have h1 := decDigits_len N (by have := hN.out; omega)
      rw [← hl.out, List.length_append] at h1; omega
    by_cases h0 : 0 < m
    · have d0 : decide (-(m : Int) < 0) = true := decide_eq_true (by omega)
      go_wp2_with (fail)
      go_roundw
      case rel => exact ⟨m / 10, digC (48 + (m : Int) % 10) :: l, by first | rfl | (congr 1; omega), by rw [str_app]; simp, Lib.hid (by rw [← hl.out, preD_step h0, byte_eq]; simp), by omega, HO.out.alloc _⟩
      case measure => simp [intOf]; omega
    · have e0 : m = 0 := by omega
      subst e0
      go_wp2_with (fail)
      go_ret
      exact ⟨by rw [← hl.out]; simp [preD]; rw [str_app]; simp, HO.out⟩
/-- Dec -/
theorem dec_any (n : Int) (h : I64 n) (w : World) : Calls Tryd.prog 42 #[.int .i64 n] w fun e w' => e = .returned (strV (Lib.itoa n)) ∧ Only [] w w' := by
  unfold I64 at h
  rcases itoa_form n with ⟨h0, e⟩ | ⟨h0, e⟩
  · have := dec_pos n.toNat (by omega) w
    rw [show ((n.toNat : Nat) : Int) = n by omega] at this
    rw [e]
    exact this
  · have := dec_neg (-n).toNat (by omega) (by omega) w
    rw [show -(((-n).toNat : Nat) : Int) = n by omega] at this
    rw [e]
    exact this
end Go.Proofs.YtgpljjejfebhoaaDoor
