/- awake. -/
import Derived.Test.YtlhmhpopppfpkaaSent
import Derived.Test.YtlhmhpopppfpkaaTake
import Derived.Test.YtlhmhpopppfpkaaLen
namespace Go.Proofs.Ytlhmhpopppfpkaa
open Go.RowKit Go.Kx Go.Maps
set_option maxRecDepth 20000

theorem sendE_ok {n room : Nat} {Ls : List (Pr × Lane)} {a b : Int} (h : ¬ Bad n a b) (hl : (laneX Ls (a, b)).length < room) : sendE n room Ls a b = 0 := by
  unfold sendE
  rw [if_neg h, if_neg (by omega)]
theorem laneX_nil (p : Pr) : laneX [] p = [] := rfl
set_option maxHeartbeats 1000000 in
theorem awake_any (w : World) : Calls Try.prog 8 #[] w fun e w' => e = .returned (.bool true) ∧ Only [] w w' := by
  go_enter Try.func8, Try.ntmps8
  go_wp2_with (fail)
  refine (new_net 2 9 (by omega) (by omega) w).mono ?_
  rintro e w1 ⟨rfl, h1, o1⟩
  have t1 := send_any h1 o1.size (a := 0) (b := 1) 10 ⟨by decide, by decide⟩ ⟨by decide, by decide⟩ (by decide)
  rw [sendE_ok (by unfold Bad; omega) (by rw [laneX_nil]; decide)] at t1
  have f1 := h1.fresh (B0 := w.heap.size) (Nat.le_refl _)
  have HO1 := Lib.hid o1
  clear h1 o1
  go_wp2_with (fail)
  refine t1.mono ?_
  rintro e w2 ⟨rfl, L2, h2, s2, -, o2, -⟩
  replace s2 := s2 trivial
  have O2 := HO1.out.trans o2 f1
  have x2 : ∀ q, laneX L2 q = if q = (0, 1) then [10] else [] := fun q => by rw [s2.at_]; split <;> rfl
  have n2 : total L2 = 1 := s2.tot
  have l2 : L2.length ≤ 1 := s2.len
  have t2 := send_any h2 O2.size (a := 1) (b := 0) 20 ⟨by decide, by decide⟩ ⟨by decide, by decide⟩ (by omega)
  rw [sendE_ok (by unfold Bad; omega) (by rw [x2]; decide)] at t2
  have f2 := h2.fresh (B0 := w.heap.size) (Nat.le_refl _)
  have HO2 := Lib.hid O2
  have HX2 := Lib.hid x2
  clear t1 h2 o2 O2 HO1 f1 s2 x2
  go_wp2_with (fail)
  refine t2.mono ?_
  rintro e w3 ⟨rfl, L3, h3, s3, -, o3, -⟩
  replace s3 := s3 trivial
  have O3 := HO2.out.trans o3 f2
  have x3 : ∀ q, laneX L3 q = if q = (1, 0) then [20] else if q = (0, 1) then [10] else [] := fun q => by
    rw [s3.at_, HX2.out]
    by_cases h : q = (1, 0)
    · subst h; rfl
    · rw [if_neg h, if_neg h]
  have n3 : total L3 = 2 := by have := s3.tot; omega
  have l3 : L3.length ≤ 2 := by have := s3.len; omega
  have t3 := send_any h3 O3.size (a := 0) (b := 1) 30 ⟨by decide, by decide⟩ ⟨by decide, by decide⟩ (by omega)
  rw [sendE_ok (by unfold Bad; omega) (by rw [x3]; decide)] at t3
  have f3 := h3.fresh (B0 := w.heap.size) (Nat.le_refl _)
  have HO3 := Lib.hid O3
  have HX3 := Lib.hid x3
  clear t2 h3 o3 O3 HO2 f2 s3 x3 HX2 n2 l2
  go_wp2_with (fail)
  refine t3.mono ?_
  rintro e w4 ⟨rfl, L4, h4, s4, -, o4, -⟩
  replace s4 := s4 trivial
  have O4 := HO3.out.trans o4 f3
  have x4 : laneX L4 (0, 1) = [10, 30] := by rw [s4.at_, HX3.out]; rfl
  have n4 : total L4 = 3 := by have := s4.tot; omega
  have t4 := len_net h4 (by omega)
  rw [n4] at t4
  have HO4 := Lib.hid O4
  have HH4 := Lib.hid h4
  have HX4 := Lib.hid x4
  clear t3 h4 o4 O4 HO3 f3 s4 x4 HX3 n3 l3 n4
  go_wp2_with (fail)
  refine t4.mono ?_
  rintro e w5 ⟨rfl, o5⟩
  have h5 := HH4.out.keep o5
  have O5 := HO4.out.trans o5 (by simp)
  have t5 := take_any h5 O5.size (a := 0) (b := 1) ⟨by decide, by decide⟩ ⟨by decide, by decide⟩
  rw [HX4.out] at t5
  have f5 := h5.fresh (B0 := w.heap.size) (Nat.le_refl _)
  have HO5 := Lib.hid O5
  clear t4 h5 o5 O5 HO4 HH4 HX4
  go_wp2_with (fail)
  refine t5.mono ?_
  rintro e w6 ⟨rfl, h6, o6⟩
  have HO6 := Lib.hid (HO5.out.trans o6 f5)
  clear t5 h6 o6 HO5 f5
  simp only [hdI, anyI, List.headD_cons, List.isEmpty_cons, Bool.not_false]
  go_wp2_with (fail)
  go_ret
  exact ⟨rfl, HO6.out⟩
end Go.Proofs.Ytlhmhpopppfpkaa
