/- ValueNames, walked. -/
import Derived.Test.YtgpljjejfebhoaaDoorAwake
namespace Go.Proofs.YtgpljjejfebhoaaDoor
open Go.RowKit Go.Kx Go.Val
set_option maxRecDepth 100000
theorem names_any {s : ByteArray} {w : World} (hs : s.size ≤ 9223372036854775807) (hT : Tab10 w) : Calls Tryd.prog 3 #[.string s] w fun e w' => e = .returned (.bool true) ∧ Only [] w w' := by
  have C := Lib.hid (awake_any hT)
  have N := Lib.hid (fun W => name_any (s := s) (w := W) hs)
  have R := Lib.hid (fun W => refname_any (s := s) (w := W) hs)
  generalize nameB s.toList = b at N R
  clear hT hs
  go_enter Tryd.func3, Tryd.ntmps3
  go_wp2_with (fail)
  refine C.out.mono ?_
  rintro r w1 ⟨rfl, o1⟩
  have HO1 := Lib.hid o1
  clear o1
  go_wp2_with (fail)
  refine (N.out _).mono ?_
  rintro r w2 ⟨rfl, o2⟩
  have HO2 := Lib.hid (HO1.out.trans o2 (by simp))
  clear o2
  go_wp2_with (fail)
  refine (R.out _).mono ?_
  rintro r w3 ⟨rfl, o3⟩
  have HO3 := Lib.hid (HO2.out.trans o3 (by simp))
  clear o3
  cases b <;>
    (go_wp2_with (fail)
     go_ret
     exact ⟨rfl, HO3.out⟩)
end Go.Proofs.YtgpljjejfebhoaaDoor
