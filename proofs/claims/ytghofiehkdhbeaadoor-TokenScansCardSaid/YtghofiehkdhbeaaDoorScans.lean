/- TokenScans. -/
import Derived.Test.YtghofiehkdhbeaaDoorRScan
import Derived.Test.YtghofiehkdhbeaaDoorAwake
namespace Go.Proofs.YtghofiehkdhbeaaDoor
open Go.RowKit Go.Kx Go.Tok
set_option maxRecDepth 100000

set_option maxHeartbeats 2000000 in
theorem scans_any {w : World} {s : ByteArray} (hT : Tabs w) : Calls Tryd.prog 4 #[.string s] w fun r w' => r = .returned (.bool true) ∧ Only [] w w' := by
  have HT := Lib.hid hT
  clear hT
  by_cases hbig : 30000 < s.size
  · have e1 : (30000 : Int) < (s.size : Int) := by omega
    go_enter Tryd.func4, Tryd.ntmps4
    go_wp2_with (fail)
    refine (awake_any HT.out).mono ?_
    rintro r w1 ⟨rfl, o1⟩
    have HO1 := Lib.hid o1
    clear o1
    go_wp2_with (fail)
    refine (awake_any (HT.out.keep HO1.out)).mono ?_
    rintro r w2 ⟨rfl, o2⟩
    have HO2 := Lib.hid (HO1.out.trans o2 (by simp))
    clear o2
    go_wp2_with (fail)
    go_ret
    exact ⟨rfl, HO2.out⟩
  · have e1 : ¬ (30000 : Int) < (s.size : Int) := by omega
    go_enter Tryd.func4, Tryd.ntmps4
    go_wp2_with (fail)
    refine (awake_any HT.out).mono ?_
    rintro r w1 ⟨rfl, o1⟩
    have HO1 := Lib.hid o1
    clear o1
    go_wp2_with (fail)
    refine (scan_any s (by omega) (HT.out.keep HO1.out)).mono ?_
    rintro r w2 ⟨o2, hp⟩
    have HO2 := Lib.hid (HO1.out.trans o2 (by simp))
    have hcnt := scanR_count s
    obtain ⟨ws, er, hsc⟩ : ∃ ws er, scanR s = (ws, er) := ⟨_, _, rfl⟩
    rw [hsc] at hp hcnt
    have HSC := Lib.hid hsc
    have HCN := Lib.hid (show ws.length ≤ 100000001 by simp at hcnt; omega)
    clear o2 hsc hcnt
    cases er with
    | none =>
      obtain ⟨A, c, rfl, how⟩ := hp
      have HR := Lib.hid (own_rowW rfl how)
      clear how
      go_wp2_with (fail)
      refine (rscan_any s (by omega) w2).mono ?_
      rintro r w3 ⟨o3, hp⟩
      rw [HSC.out] at hp
      obtain ⟨A2, c2, rfl, how⟩ := hp
      have HR3 := Lib.hid (HR.out.keep o3)
      have HR2 := Lib.hid (own_rowW rfl how)
      have HO3 := Lib.hid (HO2.out.trans o3 (by simp))
      clear how o3
      go_wp2_with (fail)
      refine (plain_any HR3.out HCN.out).mono ?_
      rintro r w4 ⟨⟨A4, c4, rfl, how⟩, o4⟩
      have HR4 := Lib.hid (own_rowW rfl how)
      have HR5 := Lib.hid (HR2.out.keep o4)
      have HO4 := Lib.hid (HO3.out.trans o4 (by simp))
      clear how o4
      go_wp2_with (fail)
      refine (rsame_any HR4.out HR5.out HCN.out HCN.out).mono ?_
      rintro r w5 ⟨rfl, o5⟩
      have HO5 := Lib.hid (HO4.out.trans o5 (by simp))
      have ed : decide (ws = ws) = true := by simp
      rw [ed]
      clear o5 ed
      go_wp2_with (fail)
      go_ret
      exact ⟨rfl, HO5.out⟩
    | some pe =>
      obtain ⟨p, e⟩ := pe
      have hp2 : r = .returned (.tuple #[.slice none 0 0, .int .i64 p, .int .i64 e]) := hp
      subst hp2
      clear hp
      have ee : ((e : Int) == (e : Int)) = true := by simp
      have ep : ((p : Int) == (p : Int)) = true := by simp
      go_wp2_with (fail)
      refine (rscan_any s (by omega) w2).mono ?_
      rintro r w3 ⟨o3, hp⟩
      rw [HSC.out] at hp
      have hp2 : r = .returned (.tuple #[.slice none 0 0, .int .i64 p, .int .i64 e]) := hp
      subst hp2
      have HO3 := Lib.hid (HO2.out.trans o3 (by simp))
      clear hp o3
      go_wp2_with (fail)
      refine (plain_any (A := none) (c := 0) (ws := []) (row_nil _ _) (by decide)).mono ?_
      rintro r w4 ⟨⟨A4, c4, rfl, how⟩, o4⟩
      have HO4 := Lib.hid (HO3.out.trans o4 (by simp))
      clear how o4
      go_wp2_with (fail)
      refine (rsame_any (L := []) (M := []) (A := A4) (c := c4) (A' := none) (c' := 0) (row_nil _ _) (row_nil _ _) (by decide) (by decide)).mono ?_
      rintro r w5 ⟨rfl, o5⟩
      have HO5 := Lib.hid (HO4.out.trans o5 (by simp))
      have ed : decide (([] : List Word) = []) = true := by simp
      rw [ed]
      clear o5 ed
      go_wp2_with (fail)
      go_ret
      exact ⟨rfl, HO5.out⟩
end Go.Proofs.YtghofiehkdhbeaaDoor
