/- AstNames. -/
import Derived.Test.YtfnacnlaphpflaaDoorAwake
namespace Go.Proofs.YtfnacnlaphpflaaDoor
open Go.RowKit Go.Kx
set_option maxRecDepth 100000

set_option maxHeartbeats 4000000 in
theorem names_any {w : World} {s : ByteArray} (hs : s.size ≤ 9223372036854775807) (hW : WordsIs w) : Calls Tryd.prog 4 #[.string s] w fun r w' => r = .returned (.bool true) ∧ Only [] w w' := by
  have C1 := Lib.hid (fun W (o : Only [] w W) => awake_any (hW.keep o))
  have C2 := Lib.hid (fun W (o : Only [] w W) => reserved_any (s := s) (hW.keep o))
  have C3 := Lib.hid (fun W (o : Only [] w W) => rreserved_any (s := s) (w := W))
  have C4 := Lib.hid (fun W (o : Only [] w W) => name_any hs (hW.keep o))
  have C5 := Lib.hid (fun W (o : Only [] w W) => refname_any (w := W) hs)
  clear hs hW
  generalize resB s.toList = r1 at *
  generalize nmB s = r2 at *
  have e1 : (r1 == r1) = true := by simp
  have e2 : (r2 == r2) = true := by simp
  go_enter Tryd.func4, Tryd.ntmps4
  go_wp2_with (fail)
  refine (C1.out _ (Only.refl _ _)).mono ?_
  rintro r w1 ⟨rfl, o1⟩
  have O1 := Lib.hid o1
  clear o1
  go_wp2_with (fail)
  refine (C2.out _ O1.out).mono ?_
  rintro r w2 ⟨rfl, o2⟩
  have O2 := Lib.hid (O1.out.trans o2 (by simp))
  clear o2
  go_wp2_with (fail)
  refine (C3.out _ O2.out).mono ?_
  rintro r w3 ⟨rfl, o3⟩
  have O3 := Lib.hid (O2.out.trans o3 (by simp))
  clear o3
  go_wp2_with (fail)
  refine (C4.out _ O3.out).mono ?_
  rintro r w4 ⟨rfl, o4⟩
  have O4 := Lib.hid (O3.out.trans o4 (by simp))
  clear o4
  go_wp2_with (fail)
  refine (C5.out _ O4.out).mono ?_
  rintro r w5 ⟨rfl, o5⟩
  have O5 := Lib.hid (O4.out.trans o5 (by simp))
  clear o5
  go_wp2_with (fail)
  go_ret
  exact ⟨by first | rfl | simp, O5.out⟩
end Go.Proofs.YtfnacnlaphpflaaDoor
