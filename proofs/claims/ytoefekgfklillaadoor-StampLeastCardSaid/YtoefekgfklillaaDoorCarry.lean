/- bits.Add64, bits.Sub64 at this program: the model's own entries. -/
import Derived.Test.YtoefekgfklillaaDoorDiv2
import Derived.Shelf.Spec.BitsCarry
namespace Go.Proofs.YtoefekgfklillaaDoor
open Go.RowKit Go.Kx Go.Shelf

theorem add64 (x y c : Nat) (hc : c ≤ 1) (w : World) : (callFunc 52 #[.int .u64 x, .int .u64 y, .int .u64 c]).run Tryd.prog w =
    .ok (.value (.tuple #[.int .u64 (((x + y + c) % 18446744073709551616 : Nat) : Int), .int .u64 (((x + y + c) / 18446744073709551616 : Nat) : Int)])) w := by
  rw [run_callFunc_extern Tryd.func52 (by kernel_rfl) (by kernel_rfl) (by kernel_rfl) (e := add64Entry) (by kernel_rfl), run_add64 x y c (by omega) (by omega) (by omega) (by omega)]
  simp only [Result.andThen]
  congr 5 <;> omega

theorem sub64 (x y b : Nat) (hb : b ≤ 1) (w : World) : (callFunc 51 #[.int .u64 x, .int .u64 y, .int .u64 b]).run Tryd.prog w =
    .ok (.value (.tuple #[.int .u64 (((x + 18446744073709551616 - y - b) % 18446744073709551616 : Nat) : Int), .int .u64 ((if x < y + b then 1 else 0 : Nat) : Int)])) w := by
  rw [run_callFunc_extern Tryd.func51 (by kernel_rfl) (by kernel_rfl) (by kernel_rfl) (e := sub64Entry) (by kernel_rfl), run_sub64 x y b hb]
  rfl

/-- the sum of two numbers of two words, word by word; no carry out -/
theorem add_words (X Y : Nat) (h : X + Y < 340282366920938463463374607431768211456) :
    (X % 18446744073709551616 + Y % 18446744073709551616 + 0) % 18446744073709551616 = (X + Y) % 18446744073709551616 ∧
    (X / 18446744073709551616 + Y / 18446744073709551616 + (X % 18446744073709551616 + Y % 18446744073709551616 + 0) / 18446744073709551616) % 18446744073709551616 = (X + Y) / 18446744073709551616 := by
  omega
theorem sub_words (X Y : Nat) (h : Y ≤ X) (hX : X < 340282366920938463463374607431768211456) :
    (X % 18446744073709551616 + 18446744073709551616 - Y % 18446744073709551616 - 0) % 18446744073709551616 = (X - Y) % 18446744073709551616 ∧
    (X / 18446744073709551616 + 18446744073709551616 - Y / 18446744073709551616 - (if X % 18446744073709551616 < Y % 18446744073709551616 + 0 then 1 else 0)) % 18446744073709551616 = (X - Y) / 18446744073709551616 := by
  split <;> omega

end Go.Proofs.YtoefekgfklillaaDoor
