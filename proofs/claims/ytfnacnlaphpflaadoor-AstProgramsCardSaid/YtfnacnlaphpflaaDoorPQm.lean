/- Right, the document's, of models and programs. -/
import Derived.Test.YtfnacnlaphpflaaDoorPQc
import Derived.Test.YtfnacnlaphpflaaDoorPQa
namespace Go.Proofs.YtfnacnlaphpflaaDoor
open Go.RowKit Go.Kx
open Go.Val (Tt)
set_option maxRecDepth 100000
theorem qmodel_any {e : Md} {w : World} (ha : Md.Li w e) : Calls Tryd.prog 49 #[e.val] w fun r w' => r = .returned (.bool e.ok) ∧ Only [] w w' := by
  obtain ⟨xn, xcp, xinsA, xinsc, xinsl, xoutsA, xoutsc, xoutsl, xvarsA, xvarsc, xvarsl, xtaA, xtac, xtal, xemitsA, xemitsc, xemitsl, xintA, xintc, xintl, xextA, xextc, xextl, xcon, xownA, xownc, xownl, xpartsA, xpartsc, xpartsl, xlinksA, xlinksc, xlinksl, xrulesA, xrulesc, xrulesl⟩ := e
  cases xcp
  · exact qmodelA ha
  · exact qmodelC ha
set_option maxHeartbeats 8000000 in
theorem qright_any {A : Option Addr} {c : Nat} {us : List Md} {rt : ByteArray} {w : World} (hA : RowX Md.cs 14 Md.Li w A us) (hr : okS rt) :
    Calls Tryd.prog 28 #[.agg #[.slice A us.length c, .string rt]] w fun e w' => e = .returned (.bool (okP us rt)) ∧ Only [] w w' := by
  have hlA := hA.len
  have HA := Lib.hid hA
  have K0 := Lib.hid (fun W (_ : Only [] w W) => (show Calls Tryd.prog 18 #[.string rt] W fun r w' => r = .returned (.bool (nmB rt)) ∧ Only [] W w' from refname_any hr))
  have HE := Lib.hid (show okP us rt = (decide (1 ≤ us.length) && decide (us.length ≤ 24) && nmB rt && us.all Md.ok) from rfl)
  obtain ⟨q0, hq⟩ : ∃ q, nmB rt = q := ⟨_, rfl⟩
  rw [hq] at HE K0
  clear hq
  obtain ⟨q1, hq⟩ : ∃ q, us.all Md.ok = q := ⟨_, rfl⟩
  rw [hq] at HE
  have HQ := Lib.hid hq
  clear hq
  obtain ⟨z0, hz⟩ : ∃ q, decide (1 ≤ us.length) = q := ⟨_, rfl⟩
  rw [hz] at HE
  have HZ0 := Lib.hid hz
  clear hz
  obtain ⟨z1, hz⟩ : ∃ q, decide (us.length ≤ 24) = q := ⟨_, rfl⟩
  rw [hz] at HE
  have HZ1 := Lib.hid hz
  clear hz hA hr
  rw [HE.out]
  clear HE
  have HX0 := Lib.hid (Blk.new w 39 #[.slice A us.length c, .string rt])
  have HO0 := Lib.hid (show Only [] w (w.alloc (.cells #[.slice A us.length c, .string rt] 39)) from (Only.refl [] w).alloc _)
  obtain ⟨bx0, bx1, bxl⟩ := HX0.out.facts2
  go_enter Tryd.func28, Tryd.ntmps28
  by_cases e0 : 1 ≤ us.length
  · have E0 := Lib.hid (HZ0.out.symm.trans (decide_eq_true e0))
    have e0a : decide (us.length < 1) = false := decide_eq_false (by omega)
    have e0b : decide ((us.length : Int) < 1) = false := decide_eq_false (by omega)
    by_cases e1 : us.length ≤ 24
    · have E1 := Lib.hid (HZ1.out.symm.trans (decide_eq_true e1))
      have e1a : decide (24 < us.length) = false := decide_eq_false (by omega)
      have e1b : decide ((24 : Int) < (us.length : Int)) = false := decide_eq_false (by omega)
      go_wp2_with (fail)
      refine (K0.out _ HO0.out).mono ?_
      rintro r w1 ⟨rfl, o1⟩
      have HO1 := Lib.hid (HO0.out.trans o1 (by simp))
      have HX1 := Lib.hid (o1.blk HX0.out (by simp))
      clear o1 bx0 bx1 bxl e0a e0b e1a e1b e0 e1
      obtain ⟨bx0, bx1, bxl⟩ := HX1.out.facts2
      cases q0
      · go_wp2_with (fail)
        go_ret
        exact ⟨by simp only [Bool.and_false, Bool.false_and] <;> rfl, HO1.out⟩
      · go_wp2_with (fail)
        clear bx0 bx1 bxl
        go_loopw [3] (fun i wr => ∃ k : Nat, i = .int .i64 k ∧ k ≤ us.length ∧ Hid ((us.take k).all Md.ok = true) ∧ Hid (Only [] w1 wr)) (fun i _ => us.length - (intOf i).toNat)
        case atStart => exact ⟨0, rfl, Nat.zero_le _, Lib.hid (by simp), Lib.hid (Only.refl _ _)⟩
        case round =>
          obtain ⟨k, rfl, hk, HP, HOr⟩ := hrel
          have HOW := Lib.hid (HO1.out.trans HOr.out (by simp))
          obtain ⟨bx0, bx1, bxl⟩ := (HOr.out.blk HX1.out (by simp)).facts2
          by_cases hlt : k < us.length
          · obtain ⟨ue, hx⟩ : ∃ e, us[k]? = some e := ⟨_, List.getElem?_eq_getElem hlt⟩
            have hmem : ue ∈ us := List.mem_of_getElem? hx
            have hLx := Md.Li.keep _ _ _ (HA.out.sub ue hmem) HOW.out
            have HTK := Lib.hid (show (us.take (k + 1)).all Md.ok = ((us.take k).all Md.ok && ue.ok) from by rw [List.take_add_one, hx, List.all_append]; simp)
            have HBAD := Lib.hid (show ue.ok = false → q1 = false from fun h => by rw [← HQ.out, List.all_eq_false]; exact ⟨ue, hmem, by rw [h]; decide⟩)
            have hrx := (HA.out.row k _ hx).keep HOW.out
            have hki : (0 : Int) ≤ (k : Int) := by omega
            have hkx : (k : Int) < (us.length : Int) := by omega
            have hA0 := fun W (o : Only [] wr W) => qmodel_any (e := ue) (Md.Li.keep _ _ _ hLx o)
            obtain ⟨p0, hp0⟩ : ∃ q, ue.ok = q := ⟨_, rfl⟩
            simp only [hp0] at hA0
            have HEU := Lib.hid hp0
            clear hx hmem hLx hp0
            obtain ⟨xn, xcp, xinsA, xinsc, xinsl, xoutsA, xoutsc, xoutsl, xvarsA, xvarsc, xvarsl, xtaA, xtac, xtal, xemitsA, xemitsc, xemitsl, xintA, xintc, xintl, xextA, xextc, xextl, xcon, xownA, xownc, xownl, xpartsA, xpartsc, xpartsl, xlinksA, xlinksc, xlinksl, xrulesA, xrulesc, xrulesl⟩ := ue
            have HCA := Lib.hid (show ∀ W, Only [] wr W → Calls Tryd.prog 49 #[.agg #[.string xn, .bool xcp, .slice xinsA xinsl.length xinsc, .slice xoutsA xoutsl.length xoutsc, .slice xvarsA xvarsl.length xvarsc, .slice xtaA xtal.length xtac, .slice xemitsA xemitsl.length xemitsc, .slice xintA xintl.length xintc, .slice xextA xextl.length xextc, .int .i64 xcon, .slice xownA xownl.length xownc, .slice xpartsA xpartsl.length xpartsc, .slice xlinksA xlinksl.length xlinksc, .slice xrulesA xrulesl.length xrulesc]] W fun r w' => r = .returned (.bool p0) ∧ Only [] W w' from hA0)
            clear hA0
            obtain ⟨ba, oa, hAe, hba, c0, c1, c2, c3, c4, c5, c6, c7, c8, c9, c10, c11, c12, c13⟩ := Md.at_cells hrx
            subst hAe
            clear hrx
            go_wp2_with (fail)
            refine (HCA.out _ (Only.refl _ _)).mono ?_
            rintro r w3 ⟨rfl, o3⟩
            have HO3 := Lib.hid (HOr.out.trans o3 (by simp))
            clear o3 hba c0 c1 c2 c3 c4 c5 c6 c7 c8 c9 c10 c11 c12 c13 bx0 bx1 bxl
            cases p0
            · go_wp2_with (fail)
              go_ret
              exact ⟨by rw [HBAD.out HEU.out]; simp only [Bool.and_false] <;> rfl, HO1.out.trans HO3.out (by simp)⟩
            · go_wp2_with (fail)
              go_roundw
              case rel => exact ⟨k + 1, by go_num, by omega, Lib.hid (by rw [HTK.out, HP.out, HEU.out]; rfl), HO3⟩
              case measure => simp [intOf] <;> omega
          · obtain rfl : k = us.length := by omega
            have iz : ¬ (us.length : Int) < (us.length : Int) := by omega
            have hq : q1 = true := by rw [← HQ.out]; have h := HP.out; rw [List.take_length] at h; exact h
            subst hq
            go_wp2_with (fail)
            go_ret
            exact ⟨by simp only [E0.out, E1.out, Bool.and_true] <;> rfl, HOW.out⟩
    · have E1 := Lib.hid (HZ1.out.symm.trans (decide_eq_false e1))
      have e1a : decide (24 < us.length) = true := decide_eq_true (by omega)
      have e1b : decide ((24 : Int) < (us.length : Int)) = true := decide_eq_true (by omega)
      go_wp2_with (fail)
      go_ret
      exact ⟨by simp only [E0.out, E1.out, Bool.and_false, Bool.false_and] <;> rfl, HO0.out⟩
  · have E0 := Lib.hid (HZ0.out.symm.trans (decide_eq_false e0))
    have e0a : decide (us.length < 1) = true := decide_eq_true (by omega)
    have e0b : decide ((us.length : Int) < 1) = true := decide_eq_true (by omega)
    go_wp2_with (fail)
    go_ret
    exact ⟨by simp only [E0.out, Bool.false_and] <;> rfl, HO0.out⟩
end Go.Proofs.YtfnacnlaphpflaaDoor
