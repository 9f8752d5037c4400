/- The reference's Dec, walked: a number's decimal digits. -/
import Derived.Test.YtoefekgfklillaaDoorRefSum
import Derived.Lib.ItoaNum
import Derived.Lib.ItoaLen
import Derived.Laws.BytesArg
namespace Go.Proofs.YtoefekgfklillaaDoor
open Go.RowKit Go.Kx
set_option maxRecDepth 20000

/-- the digits of what is left -/
def preD (m : Nat) : List UInt8 := if m = 0 then [] else Lib.decDigits m
theorem preD_step {m : Nat} (h : 0 < m) : preD m = preD (m / 10) ++ [UInt8.ofNat (48 + m % 10)] := by
  unfold preD
  rw [if_neg (by omega), Lib.decDigits]
  by_cases h1 : m < 10
  · rw [dif_pos h1, if_pos (by omega), Nat.mod_eq_of_lt h1]; rfl
  · rw [dif_neg h1, if_neg (by omega)]
theorem dec_first (m : Nat) : Lib.decDigits m = preD (m / 10) ++ [UInt8.ofNat (48 + m % 10)] := by
  by_cases h : m = 0
  · subst h; rw [Lib.decDigits, dif_pos (by omega)]; rfl
  · rw [← preD_step (by omega)]; unfold preD; rw [if_neg h]

/-- the byte that a number is -/
def digB (x : Int) : UInt8 := UInt8.ofNat x.toNat
theorem run_digit (w : World) (x : Int) :
    (convert 78 9 (.slice (some ⟨w.heap.size, 0, none⟩) 1 1)).run Tryd.prog (w.alloc (.cells #[.int .u8 x] 5)) = .ok (.string ⟨#[digB x]⟩) (w.alloc (.cells #[.int .u8 x] 5)) := by
  have h := run_convert_bytes_arg (P := Tryd.prog) (w.alloc (.cells #[.int .u8 x] 5)) 78 5 Tryd.underlying78 Tryd.underlying5 w.heap.size 0 1 1 [x] rfl (fun i hi => by
    obtain rfl : i = 0 := by omega
    simp) 9 Tryd.underlying9
  exact h
theorem byte_eq (m : Nat) : digB (48 + (m : Int) % 10) = UInt8.ofNat (48 + m % 10) := by
  unfold digB; congr 1

theorem str_app (a b : Array UInt8) : (⟨a⟩ : ByteArray) ++ ⟨b⟩ = ⟨a ++ b⟩ := by
  apply ByteArray.ext
  simp
theorem decDigits_len (N : Nat) (h : N ≤ 9223372036854775807) : (Lib.decDigits N).length ≤ 20 := by
  rw [Lib.decDigits_length]; exact Lib.nDigits_le20 N (by omega)

theorem dec_any (N : Nat) (h : N ≤ 9223372036854775807) (w : World) : Calls Tryd.prog 37 #[.int .i64 N] w fun e w' => e = .returned (.string ⟨(Lib.decDigits N).toArray⟩) ∧ Only [] w w' := by
  have hm : IntKind.u8.wrap (48 + (N : Int) % 10) = 48 + (N : Int) % 10 := by rw [IntKind.wrap_u8]; omega
  have hr := run_digit
  have hN := Lib.hid h
  go_enter Tryd.func37, Tryd.ntmps37
  go_wp2_with (fail)
  go_loopw [0, 3] (fun n s wr => ∃ (m : Nat) (l : List UInt8), n = .int .i64 m ∧ s = .string ⟨l.toArray⟩ ∧ Hid (preD m ++ l = Lib.decDigits N) ∧ m ≤ N ∧ Only [] w wr) (fun n _ _ => (intOf n).toNat)
  case atStart => exact ⟨N / 10, [digB (48 + (N : Int) % 10)], rfl, rfl, Lib.hid (by rw [byte_eq]; exact (dec_first N).symm), by omega, (Only.refl [] w).alloc _⟩
  case round =>
    obtain ⟨m, l, rfl, rfl, hl, hm2, ho⟩ := hrel
    have HO := Lib.hid ho
    clear ho hm
    have hm : IntKind.u8.wrap (48 + (m : Int) % 10) = 48 + (m : Int) % 10 := by rw [IntKind.wrap_u8]; omega
    have hll : l.length ≤ 20 := by
      have h1 := decDigits_len N hN.out
      rw [← hl.out, List.length_append] at h1; omega
    by_cases h0 : 0 < m
    · go_wp2_with (fail)
      go_roundw
      case rel => exact ⟨m / 10, digB (48 + (m : Int) % 10) :: l, rfl, by rw [str_app]; simp, Lib.hid (by rw [← hl.out, preD_step h0, byte_eq]; simp), by omega, HO.out.alloc _⟩
      case measure => simp [intOf]; omega
    · obtain rfl : m = 0 := by omega
      have e : l = Lib.decDigits N := by have := hl.out; simpa [preD] using this
      go_wp2_with (fail)
      go_ret
      exact ⟨by subst e; rfl, HO.out⟩
end Go.Proofs.YtoefekgfklillaaDoor
