/- level, order. -/
import Derived.Test.YtpedlapemgjgaaaSym
import Derived.Test.YtpedlapemgjgaaaMem
namespace Go.Proofs.Ytpedlapemgjgaaa
open Go.RowKit Go.Kx Go.Bag
set_option maxRecDepth 100000

def keyJ (e : Ent) : Int := e.1
def keyI (e : Int) : Int := e
theorem level_any (a b c d : Int) (w : World) : Calls Try.prog 22 #[.agg #[.int .i64 a, .int .i64 b], .agg #[.int .i64 c, .int .i64 d]] w fun e w' => e = .returned (.int .i64 (cmpZ a c)) ∧ Only [] w w' := by
  have HO := Lib.hid (show Only [] w ((w.alloc (.cells #[.int .i64 a, .int .i64 b] 49)).alloc (.cells #[.int .i64 c, .int .i64 d] 49)) from ((Only.refl _ _).alloc _).alloc _)
  rcases Int.lt_trichotomy a c with h | h | h
  · have e : cmpZ a c = -1 := by unfold cmpZ; rw [if_pos h]
    have HE := Lib.hid e
    clear e
    go_enter Try.func22, Try.ntmps22
    go_wp2_with (fail)
    go_ret
    exact ⟨by rw [HE.out]; rfl, HO.out⟩
  · subst h
    have HE := Lib.hid (show cmpZ a a = 0 by unfold cmpZ; simp)
    go_enter Try.func22, Try.ntmps22
    go_wp2_with (fail)
    go_ret
    exact ⟨by rw [HE.out]; rfl, HO.out⟩
  · have h2 : ¬ a < c := by omega
    have HE := Lib.hid (show cmpZ a c = 1 by unfold cmpZ; rw [if_neg h2, if_pos h])
    go_enter Try.func22, Try.ntmps22
    go_wp2_with (fail)
    go_ret
    exact ⟨by rw [HE.out]; rfl, HO.out⟩
theorem order_any (a c : Int) (w : World) : Calls Try.prog 11 #[.int .i64 a, .int .i64 c] w fun e w' => e = .returned (.int .i64 (cmpZ a c)) ∧ Only [] w w' := by
  have C := Lib.hid (fun w => level_any a 0 c 0 w)
  go_enter Try.func11, Try.ntmps11
  go_wp2_with (fail)
  refine (C.out _).mono ?_
  rintro r w1 ⟨rfl, o⟩
  have HO := Lib.hid o
  clear o
  go_wp2_with (fail)
  go_ret
  exact ⟨rfl, HO.out⟩
end Go.Proofs.Ytpedlapemgjgaaa
