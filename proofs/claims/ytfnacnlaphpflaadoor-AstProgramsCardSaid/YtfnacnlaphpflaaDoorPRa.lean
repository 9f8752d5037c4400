/- Right, the program's, of an atomic model. -/
import Derived.Test.YtfnacnlaphpflaaDoorPRu
namespace Go.Proofs.YtfnacnlaphpflaaDoor
open Go.RowKit Go.Kx
open Go.Val (Tt)
set_option maxRecDepth 100000
set_option maxHeartbeats 8000000 in
theorem atomic_any {xn : ByteArray} {xcp : Bool} {xinsA : Option Addr} {xinsc : Nat} {xinsl : List Po} {xoutsA : Option Addr} {xoutsc : Nat} {xoutsl : List Po} {xvarsA : Option Addr} {xvarsc : Nat} {xvarsl : List Se} {xtaA : Option Addr} {xtac : Nat} {xtal : List Ex} {xemitsA : Option Addr} {xemitsc : Nat} {xemitsl : List Em} {xintA : Option Addr} {xintc : Nat} {xintl : List Se} {xextA : Option Addr} {xextc : Nat} {xextl : List Se} {xcon : Int} {xownA : Option Addr} {xownc : Nat} {xownl : List Se} {xpartsA : Option Addr} {xpartsc : Nat} {xpartsl : List Pa} {xlinksA : Option Addr} {xlinksc : Nat} {xlinksl : List Lk} {xrulesA : Option Addr} {xrulesc : Nat} {xrulesl : List Ru} {w : World} (ha : Md.Li w (.mk xn xcp xinsA xinsc xinsl xoutsA xoutsc xoutsl xvarsA xvarsc xvarsl xtaA xtac xtal xemitsA xemitsc xemitsl xintA xintc xintl xextA xextc xextl xcon xownA xownc xownl xpartsA xpartsc xpartsl xlinksA xlinksc xlinksl xrulesA xrulesc xrulesl)) (hW : WordsIs w) : Calls Tryd.prog 75 #[.agg #[.string xn, .bool xcp, .slice xinsA xinsl.length xinsc, .slice xoutsA xoutsl.length xoutsc, .slice xvarsA xvarsl.length xvarsc, .slice xtaA xtal.length xtac, .slice xemitsA xemitsl.length xemitsc, .slice xintA xintl.length xintc, .slice xextA xextl.length xextc, .int .i64 xcon, .slice xownA xownl.length xownc, .slice xpartsA xpartsl.length xpartsc, .slice xlinksA xlinksl.length xlinksc, .slice xrulesA xrulesl.length xrulesc]] w fun r w' => r = .returned (.bool (Md.okA (.mk xn xcp xinsA xinsc xinsl xoutsA xoutsc xoutsl xvarsA xvarsc xvarsl xtaA xtac xtal xemitsA xemitsc xemitsl xintA xintc xintl xextA xextc xextl xcon xownA xownc xownl xpartsA xpartsc xpartsl xlinksA xlinksc xlinksl xrulesA xrulesc xrulesl))) ∧ Only [] w w' := by
  have K0 := Lib.hid (fun W (o : Only [] w W) => (show Calls Tryd.prog 55 #[.slice xtaA xtal.length xtac, .func (.func 20) #[] #[]] W fun r w' => r = .returned (.bool (exsOk xtal)) ∧ Only [] W w' from exsOk_any (cap := xtac) (ha.2.2.2.2.2.1.keep o) (hW.keep o)))
  have K1 := Lib.hid (fun W (o : Only [] w W) => (show Calls Tryd.prog 95 #[.slice xemitsA xemitsl.length xemitsc, .func (.func 96) #[] #[]] W fun r w' => r = .returned (.bool (xemitsl.all Em.ok)) ∧ Only [] W w' from all_Em 96 Em.ok eg96 (cap := xemitsc) (ha.2.2.2.2.2.2.1.keep Em.Li.keep o) (hW.keep o) (fun _ _ _ h1 h2 => rightEm h1 h2)))
  have HE := Lib.hid (show Md.okA (.mk xn xcp xinsA xinsc xinsl xoutsA xoutsc xoutsl xvarsA xvarsc xvarsl xtaA xtac xtal xemitsA xemitsc xemitsl xintA xintc xintl xextA xextc xextl xcon xownA xownc xownl xpartsA xpartsc xpartsl xlinksA xlinksc xlinksl xrulesA xrulesc xrulesl) = (decide (xpartsl.length = 0) && decide (xlinksl.length = 0) && decide (xrulesl.length = 0) && decide (0 ≤ xcon) && decide (xcon ≤ 2) && (decide (xownl.length = 0) || decide (xcon = 2)) && (setsOk xvarsl && setsOk xintl && setsOk xextl && setsOk xownl) && decide (xtal.length = 1) && exsOk xtal && decide (xemitsl.length ≤ 8) && xemitsl.all Em.ok) from (show _ = (decide (xpartsl.length = 0) && decide (xlinksl.length = 0) && decide (xrulesl.length = 0) && decide (0 ≤ xcon) && decide (xcon ≤ 2) && (decide (xownl.length = 0) || decide (xcon = 2)) && setsOk xvarsl && setsOk xintl && setsOk xextl && setsOk xownl && decide (xtal.length = 1) && exsOk xtal && decide (xemitsl.length ≤ 8) && xemitsl.all Em.ok) from rfl).trans (by ac_rfl))
  obtain ⟨q0, hq0⟩ : ∃ q, exsOk xtal = q := ⟨_, rfl⟩
  rw [hq0] at HE K0
  clear hq0
  obtain ⟨q1, hq1⟩ : ∃ q, xemitsl.all Em.ok = q := ⟨_, rfl⟩
  rw [hq1] at HE K1
  clear hq1
  show Calls Tryd.prog 75 #[.agg #[.string xn, .bool xcp, .slice xinsA xinsl.length xinsc, .slice xoutsA xoutsl.length xoutsc, .slice xvarsA xvarsl.length xvarsc, .slice xtaA xtal.length xtac, .slice xemitsA xemitsl.length xemitsc, .slice xintA xintl.length xintc, .slice xextA xextl.length xextc, .int .i64 xcon, .slice xownA xownl.length xownc, .slice xpartsA xpartsl.length xpartsc, .slice xlinksA xlinksl.length xlinksc, .slice xrulesA xrulesl.length xrulesc]] w fun r w' => r = .returned (.bool (Md.okA (.mk xn xcp xinsA xinsc xinsl xoutsA xoutsc xoutsl xvarsA xvarsc xvarsl xtaA xtac xtal xemitsA xemitsc xemitsl xintA xintc xintl xextA xextc xextl xcon xownA xownc xownl xpartsA xpartsc xpartsl xlinksA xlinksc xlinksl xrulesA xrulesc xrulesl))) ∧ Only [] w w'
  obtain ⟨qS, hqS⟩ : ∃ q, (setsOk xvarsl && setsOk xintl && setsOk xextl && setsOk xownl) = q := ⟨_, rfl⟩
  rw [hqS] at HE
  have HSS := Lib.hid (show ([xvarsl, xintl, xextl, xownl] : List (List Se)).all setsOk = qS from by rw [← hqS]; simp only [List.all_cons, List.all_nil, Bool.and_true]; ac_rfl)
  clear hqS
  have HWW := Lib.hid hW
  have HROWS := Lib.hid (show ∀ k : Nat, k < 4 → ∃ (A : Option Addr) (c : Nat) (l : List Se), ([xvarsl, xintl, xextl, xownl] : List (List Se))[k]? = some l ∧ (#[.slice xvarsA xvarsl.length xvarsc, .slice xintA xintl.length xintc, .slice xextA xextl.length xextc, .slice xownA xownl.length xownc] : Array Value)[k]? = some (.slice A l.length c) ∧ RowX Se.cs 6 Se.Li w A l from fun k hk => by
    match k, hk with
    | 0, _ => exact ⟨xvarsA, xvarsc, xvarsl, rfl, rfl, ha.2.2.2.2.1⟩
    | 1, _ => exact ⟨xintA, xintc, xintl, rfl, rfl, ha.2.2.2.2.2.2.2.1⟩
    | 2, _ => exact ⟨xextA, xextc, xextl, rfl, rfl, ha.2.2.2.2.2.2.2.2.1⟩
    | 3, _ => exact ⟨xownA, xownc, xownl, rfl, rfl, ha.2.2.2.2.2.2.2.2.2.2.1⟩)
  rw [HE.out]
  clear HE ha hW
  have HX0 := Lib.hid (Blk.new w 70 #[.string xn, .bool xcp, .slice xinsA xinsl.length xinsc, .slice xoutsA xoutsl.length xoutsc, .slice xvarsA xvarsl.length xvarsc, .slice xtaA xtal.length xtac, .slice xemitsA xemitsl.length xemitsc, .slice xintA xintl.length xintc, .slice xextA xextl.length xextc, .int .i64 xcon, .slice xownA xownl.length xownc, .slice xpartsA xpartsl.length xpartsc, .slice xlinksA xlinksl.length xlinksc, .slice xrulesA xrulesl.length xrulesc])
  have HO0 := Lib.hid (show Only [] w (w.alloc (.cells #[.string xn, .bool xcp, .slice xinsA xinsl.length xinsc, .slice xoutsA xoutsl.length xoutsc, .slice xvarsA xvarsl.length xvarsc, .slice xtaA xtal.length xtac, .slice xemitsA xemitsl.length xemitsc, .slice xintA xintl.length xintc, .slice xextA xextl.length xextc, .int .i64 xcon, .slice xownA xownl.length xownc, .slice xpartsA xpartsl.length xpartsc, .slice xlinksA xlinksl.length xlinksc, .slice xrulesA xrulesl.length xrulesc] 70)) from (Only.refl [] w).alloc _)
  obtain ⟨bx0, bx1, bx2, bx3, bx4, bx5, bx6, bx7, bx8, bx9, bx10, bx11, bx12, bx13, bxl⟩ := HX0.out.facts14
  clear bx0 bx1 bx2 bx3 bx5 bx6
  go_enter Tryd.func75, Tryd.ntmps75
  by_cases e0 : xpartsl.length = 0
  · have e0a : decide (0 < xpartsl.length) = false := by first | exact decide_eq_false (by omega) | (simp [e0]; done) | (simp; omega)
    have e0b : decide ((0 : Int) < (xpartsl.length : Int)) = false := by first | exact decide_eq_false (by omega) | (simp [e0]; done) | (simp; omega)
    have E0 := Lib.hid (show decide (xpartsl.length = 0) = true from decide_eq_true (by omega))
    clear e0
    by_cases e1 : xlinksl.length = 0
    · have e1a : decide (0 < xlinksl.length) = false := by first | exact decide_eq_false (by omega) | (simp [e1]; done) | (simp; omega)
      have e1b : decide ((0 : Int) < (xlinksl.length : Int)) = false := by first | exact decide_eq_false (by omega) | (simp [e1]; done) | (simp; omega)
      have E1 := Lib.hid (show decide (xlinksl.length = 0) = true from decide_eq_true (by omega))
      clear e1
      by_cases e2 : xrulesl.length = 0
      · have e2a : decide (0 < xrulesl.length) = false := by first | exact decide_eq_false (by omega) | (simp [e2]; done) | (simp; omega)
        have e2b : decide ((0 : Int) < (xrulesl.length : Int)) = false := by first | exact decide_eq_false (by omega) | (simp [e2]; done) | (simp; omega)
        have E2 := Lib.hid (show decide (xrulesl.length = 0) = true from decide_eq_true (by omega))
        clear e2
        by_cases e3 : 0 ≤ xcon
        · have e3a : decide (xcon < 0) = false := by first | exact decide_eq_false (by omega) | (simp [e3]; done) | (simp; omega)
          have E3 := Lib.hid (show decide (0 ≤ xcon) = true from decide_eq_true (by omega))
          clear e3
          by_cases e4 : xcon ≤ 2
          · have e4a : decide (2 < xcon) = false := by first | exact decide_eq_false (by omega) | (simp [e4]; done) | (simp; omega)
            have E4 := Lib.hid (show decide (xcon ≤ 2) = true from decide_eq_true (by omega))
            clear e4
            by_cases e5x : xownl.length = 0
            · have e5xa : decide (0 < xownl.length) = false := by first | exact decide_eq_false (by omega) | (simp [e5x]; done) | (simp; omega)
              have e5xb : decide ((0 : Int) < (xownl.length : Int)) = false := by first | exact decide_eq_false (by omega) | (simp [e5x]; done) | (simp; omega)
              have E5x := Lib.hid (show decide (xownl.length = 0) = true from decide_eq_true (by omega))
              clear e5x
              go_wp2_with (fail)
              have hS1 := Blk.new (w.alloc (.cells #[.string xn, .bool xcp, .slice xinsA xinsl.length xinsc, .slice xoutsA xoutsl.length xoutsc, .slice xvarsA xvarsl.length xvarsc, .slice xtaA xtal.length xtac, .slice xemitsA xemitsl.length xemitsc, .slice xintA xintl.length xintc, .slice xextA xextl.length xextc, .int .i64 xcon, .slice xownA xownl.length xownc, .slice xpartsA xpartsl.length xpartsc, .slice xlinksA xlinksl.length xlinksc, .slice xrulesA xrulesl.length xrulesc] 70)) 64 #[.slice xvarsA xvarsl.length xvarsc, .slice xintA xintl.length xintc, .slice xextA xextl.length xextc, .slice xownA xownl.length xownc]
              simp only [World.size_alloc] at hS1
              obtain ⟨w1, hw1⟩ : ∃ W : World, (w.alloc (.cells #[.string xn, .bool xcp, .slice xinsA xinsl.length xinsc, .slice xoutsA xoutsl.length xoutsc, .slice xvarsA xvarsl.length xvarsc, .slice xtaA xtal.length xtac, .slice xemitsA xemitsl.length xemitsc, .slice xintA xintl.length xintc, .slice xextA xextl.length xextc, .int .i64 xcon, .slice xownA xownl.length xownc, .slice xpartsA xpartsl.length xpartsc, .slice xlinksA xlinksl.length xlinksc, .slice xrulesA xrulesl.length xrulesc] 70)).alloc (.cells #[.slice xvarsA xvarsl.length xvarsc, .slice xintA xintl.length xintc, .slice xextA xextl.length xextc, .slice xownA xownl.length xownc] 64) = W := ⟨_, rfl⟩
              have HX1 := Lib.hid (show Blk w1 w.heap.size 70 #[.string xn, .bool xcp, .slice xinsA xinsl.length xinsc, .slice xoutsA xoutsl.length xoutsc, .slice xvarsA xvarsl.length xvarsc, .slice xtaA xtal.length xtac, .slice xemitsA xemitsl.length xemitsc, .slice xintA xintl.length xintc, .slice xextA xextl.length xextc, .int .i64 xcon, .slice xownA xownl.length xownc, .slice xpartsA xpartsl.length xpartsc, .slice xlinksA xlinksl.length xlinksc, .slice xrulesA xrulesl.length xrulesc] from by rw [← hw1]; exact HX0.out.alloc _)
              have HS1 := Lib.hid (show Blk w1 (w.heap.size + 1) 64 #[.slice xvarsA xvarsl.length xvarsc, .slice xintA xintl.length xintc, .slice xextA xextl.length xextc, .slice xownA xownl.length xownc] from by rw [← hw1]; exact hS1)
              have HO1 := Lib.hid (show Only [] w w1 from by rw [← hw1]; exact HO0.out.alloc _)
              rw [hw1]
              clear hw1 hS1
              clear bx11 bx12 bx13 bx9 bx10 bx4 bx7 bx8 bxl
              go_loopw [4, 50] (fun l i wr => ∃ (k : Nat) (l9 : Value), i = .int .i64 k ∧ l = l9 ∧ k ≤ 4 ∧ Hid ((([xvarsl, xintl, xextl, xownl] : List (List Se)).take k).all setsOk = true) ∧ Hid (Only [] w1 wr)) (fun _ i _ => 4 - (intOf i).toNat)
              case atStart => exact ⟨0, _, rfl, rfl, by omega, Lib.hid (by simp), Lib.hid (Only.refl _ _)⟩
              case round =>
                obtain ⟨k, l9, rfl, rfl, hk, HP, HOr⟩ := hrel
                have HXr := Lib.hid (HOr.out.blk HX1.out (by simp))
                have HSr := Lib.hid (HOr.out.blk HS1.out (by simp))
                have HOw := Lib.hid (HO1.out.trans HOr.out (by simp))
                by_cases hlt : k < 4
                · obtain ⟨A, c, l, hl, hs, hr⟩ := HROWS.out k hlt
                  have hc := HSr.out.cell k
                  rw [hs] at hc
                  have hsl := HSr.out.lt
                  have hki : (0 : Int) ≤ (k : Int) := by omega
                  have hk4 : (k : Int) < 4 := by omega
                  have hlen := hr.len
                  have HTK := Lib.hid (show (([xvarsl, xintl, xextl, xownl] : List (List Se)).take (k + 1)).all setsOk = ((([xvarsl, xintl, xextl, xownl] : List (List Se)).take k).all setsOk && setsOk l) from by rw [List.take_add_one, hl, List.all_append]; simp)
                  have HBAD := Lib.hid (fun (h : setsOk l = false) => (show ([xvarsl, xintl, xextl, xownl] : List (List Se)).all setsOk = false from by rw [List.all_eq_false]; exact ⟨l, List.mem_of_getElem? hl, by rw [h]; decide⟩))
                  have HR := Lib.hid hr
                  clear hl hs hr
                  by_cases e : l.length ≤ 10
                  · have ea : decide (10 < l.length) = false := decide_eq_false (by omega)
                    have eb : decide ((10 : Int) < (l.length : Int)) = false := decide_eq_false (by omega)
                    obtain ⟨q, hq⟩ : ∃ q, l.all Se.ok = q := ⟨_, rfl⟩
                    have HQ := Lib.hid (show setsOk l = q from by rw [← hq]; show (decide (l.length ≤ 10) && l.all Se.ok) = l.all Se.ok; rw [decide_eq_true e]; rfl)
                    have KQ := Lib.hid (fun W (o : Only [] wr W) => (show Calls Tryd.prog 93 #[.slice A l.length c, .func (.func 94) #[] #[]] W fun r w' => r = .returned (.bool q) ∧ Only [] W w' from by rw [← hq]; exact all_Se 94 Se.ok eg94 (HR.out.keep Se.Li.keep (HOw.out.trans o (by simp))) (HWW.out.keep (HOw.out.trans o (by simp))) (fun _ _ _ h1 h2 => rightSe h1 h2)))
                    clear hq e
                    go_wp2_with (fail)
                    refine (KQ.out _ (Only.refl _ _)).mono ?_
                    rintro r w3 ⟨rfl, o3⟩
                    have HO3 := Lib.hid (HOr.out.trans o3 (by simp))
                    clear o3 ea eb hc hsl
                    cases q
                    · go_wp2_with (fail)
                      go_ret
                      exact ⟨by rw [← HSS.out, HBAD.out HQ.out]; simp only [Bool.and_false, Bool.false_and] <;> rfl, HO1.out.trans HO3.out (by simp)⟩
                    · go_wp2_with (fail)
                      go_roundw
                      case rel => exact ⟨k + 1, _, by go_num, rfl, by omega, Lib.hid (by rw [HTK.out, HP.out, HQ.out]; rfl), HO3⟩
                      case measure => simp [intOf] <;> omega
                  · have ea : decide (10 < l.length) = true := decide_eq_true (by omega)
                    have eb : decide ((10 : Int) < (l.length : Int)) = true := decide_eq_true (by omega)
                    have HB := Lib.hid (HBAD.out (show (decide (l.length ≤ 10) && l.all Se.ok) = false from by rw [decide_eq_false e]; rfl))
                    clear e
                    go_wp2_with (fail)
                    go_ret
                    exact ⟨by rw [← HSS.out, HB.out]; simp only [Bool.and_false, Bool.false_and] <;> rfl, HOw.out⟩
                · obtain rfl : k = 4 := by omega
                  have iz : ¬ ((4 : Nat) : Int) < 4 := by omega
                  have HSt := Lib.hid (HSS.out.symm.trans (show ([xvarsl, xintl, xextl, xownl] : List (List Se)).all setsOk = true from HP.out))
                  have HX7 := HXr
                  have HO7 := HOw
                  clear HXr HSr HP
                  obtain ⟨bx0, bx1, bx2, bx3, bx4, bx5, bx6, bx7, bx8, bx9, bx10, bx11, bx12, bx13, bxl⟩ := HX7.out.facts14
                  clear bx0 bx1 bx2 bx3 bx4 bx6 bx7 bx8 bx9 bx10 bx11 bx12 bx13
                  by_cases e7 : xtal.length = 1
                  · have e7a : ((xtal.length : Int) == 1) = true := by first | exact decide_eq_true (by omega) | (simp [e7]; done) | (simp; omega)
                    have e7b : (xtal.length == 1) = true := by first | exact decide_eq_true (by omega) | (simp [e7]; done) | (simp; omega)
                    have e7c : ((xtal.length : Int) != 1) = false := by first | exact decide_eq_false (by omega) | (simp [e7]; done) | (simp; omega)
                    have e7d : (xtal.length != 1) = false := by first | exact decide_eq_false (by omega) | (simp [e7]; done) | (simp; omega)
                    have E7 := Lib.hid (show decide (xtal.length = 1) = true from decide_eq_true (by omega))
                    clear e7
                    go_wp2_with (fail)
                    refine (K0.out _ HO7.out).mono ?_
                    rintro r w8 ⟨rfl, o8⟩
                    have HO8 := Lib.hid (HO7.out.trans o8 (by simp))
                    have HX8 := Lib.hid (o8.blk HX7.out (by simp))
                    clear o8
                    clear bx5 bxl
                    cases q0
                    · go_wp2_with (fail)
                      go_ret
                      exact ⟨by simp only [E0.out, E1.out, E2.out, E3.out, E4.out, E5x.out, HSt.out, E7.out, Bool.and_true, Bool.and_false, Bool.false_and, Bool.true_or] <;> rfl, HO8.out⟩
                    · obtain ⟨bx0, bx1, bx2, bx3, bx4, bx5, bx6, bx7, bx8, bx9, bx10, bx11, bx12, bx13, bxl⟩ := HX8.out.facts14
                      clear bx0 bx1 bx2 bx3 bx4 bx5 bx7 bx8 bx9 bx10 bx11 bx12 bx13
                      by_cases e9 : xemitsl.length ≤ 8
                      · have e9a : decide (xemitsl.length ≤ 8) = true := by first | exact decide_eq_true (by omega) | (simp [e9]; done) | (simp; omega)
                        have e9b : decide ((xemitsl.length : Int) ≤ 8) = true := by first | exact decide_eq_true (by omega) | (simp [e9]; done) | (simp; omega)
                        have e9c : decide (8 < xemitsl.length) = false := by first | exact decide_eq_false (by omega) | (simp [e9]; done) | (simp; omega)
                        have e9d : decide ((8 : Int) < (xemitsl.length : Int)) = false := by first | exact decide_eq_false (by omega) | (simp [e9]; done) | (simp; omega)
                        have E9 := Lib.hid (show decide (xemitsl.length ≤ 8) = true from decide_eq_true (by omega))
                        clear e9
                        go_wp2_with (fail)
                        refine (K1.out _ HO8.out).mono ?_
                        rintro r w9 ⟨rfl, o9⟩
                        have HO9 := Lib.hid (HO8.out.trans o9 (by simp))
                        have HX9 := Lib.hid (o9.blk HX8.out (by simp))
                        clear o9
                        clear bx6 bxl
                        go_wp2_with (fail)
                        go_ret
                        exact ⟨by simp only [E0.out, E1.out, E2.out, E3.out, E4.out, E5x.out, HSt.out, E7.out, E9.out, Bool.and_true, Bool.true_and, Bool.true_or] <;> rfl, HO9.out⟩
                      · have e9a : decide (xemitsl.length ≤ 8) = false := by first | exact decide_eq_false (by omega) | (simp [e9]; done) | (simp; omega)
                        have e9b : decide ((xemitsl.length : Int) ≤ 8) = false := by first | exact decide_eq_false (by omega) | (simp [e9]; done) | (simp; omega)
                        have e9c : decide (8 < xemitsl.length) = true := by first | exact decide_eq_true (by omega) | (simp [e9]; done) | (simp; omega)
                        have e9d : decide ((8 : Int) < (xemitsl.length : Int)) = true := by first | exact decide_eq_true (by omega) | (simp [e9]; done) | (simp; omega)
                        have E9 := Lib.hid (show decide (xemitsl.length ≤ 8) = false from decide_eq_false (by omega))
                        clear e9
                        go_wp2_with (fail)
                        go_ret
                        exact ⟨by simp only [E0.out, E1.out, E2.out, E3.out, E4.out, E5x.out, HSt.out, E7.out, E9.out, Bool.and_true, Bool.and_false, Bool.false_and, Bool.true_or] <;> rfl, HO8.out⟩
                  · have e7a : ((xtal.length : Int) == 1) = false := by first | exact decide_eq_false (by omega) | (simp [e7]; done) | (simp; omega)
                    have e7b : (xtal.length == 1) = false := by first | exact decide_eq_false (by omega) | (simp [e7]; done) | (simp; omega)
                    have e7c : ((xtal.length : Int) != 1) = true := by first | exact decide_eq_true (by omega) | (simp; done) | (simp; omega)
                    have e7d : (xtal.length != 1) = true := by first | exact decide_eq_true (by omega) | (simp [e7]; done) | (simp; omega)
                    have E7 := Lib.hid (show decide (xtal.length = 1) = false from decide_eq_false (by omega))
                    clear e7
                    go_wp2_with (fail)
                    go_ret
                    exact ⟨by simp only [E3.out, E4.out, HSt.out, E7.out, Bool.and_true, Bool.and_false, Bool.false_and] <;> rfl, HO7.out⟩
            · have e5xa : decide (0 < xownl.length) = true := by first | exact decide_eq_true (by omega) | (simp [e5x]; done) | (simp; omega)
              have e5xb : decide ((0 : Int) < (xownl.length : Int)) = true := by first | exact decide_eq_true (by omega) | (simp [e5x]; done) | (simp; omega)
              have E5x := Lib.hid (show decide (xownl.length = 0) = false from decide_eq_false (by omega))
              clear e5x
              by_cases e5y : xcon = 2
              · have e5ya : (xcon == 2) = true := by first | exact decide_eq_true (by omega) | (simp [e5y]; done) | (simp; omega)
                have e5yb : (xcon != 2) = false := by first | exact decide_eq_false (by omega) | (simp [e5y]; done) | (simp; omega)
                have E5y := Lib.hid (show decide (xcon = 2) = true from decide_eq_true (by omega))
                clear e5y
                go_wp2_with (fail)
                have hS1 := Blk.new (w.alloc (.cells #[.string xn, .bool xcp, .slice xinsA xinsl.length xinsc, .slice xoutsA xoutsl.length xoutsc, .slice xvarsA xvarsl.length xvarsc, .slice xtaA xtal.length xtac, .slice xemitsA xemitsl.length xemitsc, .slice xintA xintl.length xintc, .slice xextA xextl.length xextc, .int .i64 xcon, .slice xownA xownl.length xownc, .slice xpartsA xpartsl.length xpartsc, .slice xlinksA xlinksl.length xlinksc, .slice xrulesA xrulesl.length xrulesc] 70)) 64 #[.slice xvarsA xvarsl.length xvarsc, .slice xintA xintl.length xintc, .slice xextA xextl.length xextc, .slice xownA xownl.length xownc]
                simp only [World.size_alloc] at hS1
                obtain ⟨w1, hw1⟩ : ∃ W : World, (w.alloc (.cells #[.string xn, .bool xcp, .slice xinsA xinsl.length xinsc, .slice xoutsA xoutsl.length xoutsc, .slice xvarsA xvarsl.length xvarsc, .slice xtaA xtal.length xtac, .slice xemitsA xemitsl.length xemitsc, .slice xintA xintl.length xintc, .slice xextA xextl.length xextc, .int .i64 xcon, .slice xownA xownl.length xownc, .slice xpartsA xpartsl.length xpartsc, .slice xlinksA xlinksl.length xlinksc, .slice xrulesA xrulesl.length xrulesc] 70)).alloc (.cells #[.slice xvarsA xvarsl.length xvarsc, .slice xintA xintl.length xintc, .slice xextA xextl.length xextc, .slice xownA xownl.length xownc] 64) = W := ⟨_, rfl⟩
                have HX1 := Lib.hid (show Blk w1 w.heap.size 70 #[.string xn, .bool xcp, .slice xinsA xinsl.length xinsc, .slice xoutsA xoutsl.length xoutsc, .slice xvarsA xvarsl.length xvarsc, .slice xtaA xtal.length xtac, .slice xemitsA xemitsl.length xemitsc, .slice xintA xintl.length xintc, .slice xextA xextl.length xextc, .int .i64 xcon, .slice xownA xownl.length xownc, .slice xpartsA xpartsl.length xpartsc, .slice xlinksA xlinksl.length xlinksc, .slice xrulesA xrulesl.length xrulesc] from by rw [← hw1]; exact HX0.out.alloc _)
                have HS1 := Lib.hid (show Blk w1 (w.heap.size + 1) 64 #[.slice xvarsA xvarsl.length xvarsc, .slice xintA xintl.length xintc, .slice xextA xextl.length xextc, .slice xownA xownl.length xownc] from by rw [← hw1]; exact hS1)
                have HO1 := Lib.hid (show Only [] w w1 from by rw [← hw1]; exact HO0.out.alloc _)
                rw [hw1]
                clear hw1 hS1
                clear bx11 bx12 bx13 bx9 bx10 bx4 bx7 bx8 bxl
                go_loopw [4, 50] (fun l i wr => ∃ (k : Nat) (l9 : Value), i = .int .i64 k ∧ l = l9 ∧ k ≤ 4 ∧ Hid ((([xvarsl, xintl, xextl, xownl] : List (List Se)).take k).all setsOk = true) ∧ Hid (Only [] w1 wr)) (fun _ i _ => 4 - (intOf i).toNat)
                case atStart => exact ⟨0, _, rfl, rfl, by omega, Lib.hid (by simp), Lib.hid (Only.refl _ _)⟩
                case round =>
                  obtain ⟨k, l9, rfl, rfl, hk, HP, HOr⟩ := hrel
                  have HXr := Lib.hid (HOr.out.blk HX1.out (by simp))
                  have HSr := Lib.hid (HOr.out.blk HS1.out (by simp))
                  have HOw := Lib.hid (HO1.out.trans HOr.out (by simp))
                  by_cases hlt : k < 4
                  · obtain ⟨A, c, l, hl, hs, hr⟩ := HROWS.out k hlt
                    have hc := HSr.out.cell k
                    rw [hs] at hc
                    have hsl := HSr.out.lt
                    have hki : (0 : Int) ≤ (k : Int) := by omega
                    have hk4 : (k : Int) < 4 := by omega
                    have hlen := hr.len
                    have HTK := Lib.hid (show (([xvarsl, xintl, xextl, xownl] : List (List Se)).take (k + 1)).all setsOk = ((([xvarsl, xintl, xextl, xownl] : List (List Se)).take k).all setsOk && setsOk l) from by rw [List.take_add_one, hl, List.all_append]; simp)
                    have HBAD := Lib.hid (fun (h : setsOk l = false) => (show ([xvarsl, xintl, xextl, xownl] : List (List Se)).all setsOk = false from by rw [List.all_eq_false]; exact ⟨l, List.mem_of_getElem? hl, by rw [h]; decide⟩))
                    have HR := Lib.hid hr
                    clear hl hs hr
                    by_cases e : l.length ≤ 10
                    · have ea : decide (10 < l.length) = false := decide_eq_false (by omega)
                      have eb : decide ((10 : Int) < (l.length : Int)) = false := decide_eq_false (by omega)
                      obtain ⟨q, hq⟩ : ∃ q, l.all Se.ok = q := ⟨_, rfl⟩
                      have HQ := Lib.hid (show setsOk l = q from by rw [← hq]; show (decide (l.length ≤ 10) && l.all Se.ok) = l.all Se.ok; rw [decide_eq_true e]; rfl)
                      have KQ := Lib.hid (fun W (o : Only [] wr W) => (show Calls Tryd.prog 93 #[.slice A l.length c, .func (.func 94) #[] #[]] W fun r w' => r = .returned (.bool q) ∧ Only [] W w' from by rw [← hq]; exact all_Se 94 Se.ok eg94 (HR.out.keep Se.Li.keep (HOw.out.trans o (by simp))) (HWW.out.keep (HOw.out.trans o (by simp))) (fun _ _ _ h1 h2 => rightSe h1 h2)))
                      clear hq e
                      go_wp2_with (fail)
                      refine (KQ.out _ (Only.refl _ _)).mono ?_
                      rintro r w3 ⟨rfl, o3⟩
                      have HO3 := Lib.hid (HOr.out.trans o3 (by simp))
                      clear o3 ea eb hc hsl
                      cases q
                      · go_wp2_with (fail)
                        go_ret
                        exact ⟨by rw [← HSS.out, HBAD.out HQ.out]; simp only [Bool.and_false, Bool.false_and] <;> rfl, HO1.out.trans HO3.out (by simp)⟩
                      · go_wp2_with (fail)
                        go_roundw
                        case rel => exact ⟨k + 1, _, by go_num, rfl, by omega, Lib.hid (by rw [HTK.out, HP.out, HQ.out]; rfl), HO3⟩
                        case measure => simp [intOf] <;> omega
                    · have ea : decide (10 < l.length) = true := decide_eq_true (by omega)
                      have eb : decide ((10 : Int) < (l.length : Int)) = true := decide_eq_true (by omega)
                      have HB := Lib.hid (HBAD.out (show (decide (l.length ≤ 10) && l.all Se.ok) = false from by rw [decide_eq_false e]; rfl))
                      clear e
                      go_wp2_with (fail)
                      go_ret
                      exact ⟨by rw [← HSS.out, HB.out]; simp only [Bool.and_false, Bool.false_and] <;> rfl, HOw.out⟩
                  · obtain rfl : k = 4 := by omega
                    have iz : ¬ ((4 : Nat) : Int) < 4 := by omega
                    have HSt := Lib.hid (HSS.out.symm.trans (show ([xvarsl, xintl, xextl, xownl] : List (List Se)).all setsOk = true from HP.out))
                    have HX7 := HXr
                    have HO7 := HOw
                    clear HXr HSr HP
                    obtain ⟨bx0, bx1, bx2, bx3, bx4, bx5, bx6, bx7, bx8, bx9, bx10, bx11, bx12, bx13, bxl⟩ := HX7.out.facts14
                    clear bx0 bx1 bx2 bx3 bx4 bx6 bx7 bx8 bx9 bx10 bx11 bx12 bx13
                    by_cases e7 : xtal.length = 1
                    · have e7a : ((xtal.length : Int) == 1) = true := by first | exact decide_eq_true (by omega) | (simp [e7]; done) | (simp; omega)
                      have e7b : (xtal.length == 1) = true := by first | exact decide_eq_true (by omega) | (simp [e7]; done) | (simp; omega)
                      have e7c : ((xtal.length : Int) != 1) = false := by first | exact decide_eq_false (by omega) | (simp [e7]; done) | (simp; omega)
                      have e7d : (xtal.length != 1) = false := by first | exact decide_eq_false (by omega) | (simp [e7]; done) | (simp; omega)
                      have E7 := Lib.hid (show decide (xtal.length = 1) = true from decide_eq_true (by omega))
                      clear e7
                      go_wp2_with (fail)
                      refine (K0.out _ HO7.out).mono ?_
                      rintro r w8 ⟨rfl, o8⟩
                      have HO8 := Lib.hid (HO7.out.trans o8 (by simp))
                      have HX8 := Lib.hid (o8.blk HX7.out (by simp))
                      clear o8
                      clear bx5 bxl
                      cases q0
                      · go_wp2_with (fail)
                        go_ret
                        exact ⟨by simp only [E0.out, E1.out, E2.out, E3.out, E4.out, E5x.out, E5y.out, HSt.out, E7.out, Bool.and_true, Bool.and_false, Bool.false_and, Bool.or_true] <;> rfl, HO8.out⟩
                      · obtain ⟨bx0, bx1, bx2, bx3, bx4, bx5, bx6, bx7, bx8, bx9, bx10, bx11, bx12, bx13, bxl⟩ := HX8.out.facts14
                        clear bx0 bx1 bx2 bx3 bx4 bx5 bx7 bx8 bx9 bx10 bx11 bx12 bx13
                        by_cases e9 : xemitsl.length ≤ 8
                        · have e9a : decide (xemitsl.length ≤ 8) = true := by first | exact decide_eq_true (by omega) | (simp [e9]; done) | (simp; omega)
                          have e9b : decide ((xemitsl.length : Int) ≤ 8) = true := by first | exact decide_eq_true (by omega) | (simp [e9]; done) | (simp; omega)
                          have e9c : decide (8 < xemitsl.length) = false := by first | exact decide_eq_false (by omega) | (simp [e9]; done) | (simp; omega)
                          have e9d : decide ((8 : Int) < (xemitsl.length : Int)) = false := by first | exact decide_eq_false (by omega) | (simp [e9]; done) | (simp; omega)
                          have E9 := Lib.hid (show decide (xemitsl.length ≤ 8) = true from decide_eq_true (by omega))
                          clear e9
                          go_wp2_with (fail)
                          refine (K1.out _ HO8.out).mono ?_
                          rintro r w9 ⟨rfl, o9⟩
                          have HO9 := Lib.hid (HO8.out.trans o9 (by simp))
                          have HX9 := Lib.hid (o9.blk HX8.out (by simp))
                          clear o9
                          clear bx6 bxl
                          go_wp2_with (fail)
                          go_ret
                          exact ⟨by simp only [E0.out, E1.out, E2.out, E3.out, E4.out, E5x.out, E5y.out, HSt.out, E7.out, E9.out, Bool.and_true, Bool.true_and, Bool.or_true] <;> rfl, HO9.out⟩
                        · have e9a : decide (xemitsl.length ≤ 8) = false := by first | exact decide_eq_false (by omega) | (simp [e9]; done) | (simp; omega)
                          have e9b : decide ((xemitsl.length : Int) ≤ 8) = false := by first | exact decide_eq_false (by omega) | (simp [e9]; done) | (simp; omega)
                          have e9c : decide (8 < xemitsl.length) = true := by first | exact decide_eq_true (by omega) | (simp [e9]; done) | (simp; omega)
                          have e9d : decide ((8 : Int) < (xemitsl.length : Int)) = true := by first | exact decide_eq_true (by omega) | (simp [e9]; done) | (simp; omega)
                          have E9 := Lib.hid (show decide (xemitsl.length ≤ 8) = false from decide_eq_false (by omega))
                          clear e9
                          go_wp2_with (fail)
                          go_ret
                          exact ⟨by simp only [E0.out, E1.out, E2.out, E3.out, E4.out, E5x.out, E5y.out, HSt.out, E7.out, E9.out, Bool.and_true, Bool.and_false, Bool.false_and, Bool.or_true] <;> rfl, HO8.out⟩
                    · have e7a : ((xtal.length : Int) == 1) = false := by first | exact decide_eq_false (by omega) | (simp [e7]; done) | (simp; omega)
                      have e7b : (xtal.length == 1) = false := by first | exact decide_eq_false (by omega) | (simp [e7]; done) | (simp; omega)
                      have e7c : ((xtal.length : Int) != 1) = true := by first | exact decide_eq_true (by omega) | (simp; done) | (simp; omega)
                      have e7d : (xtal.length != 1) = true := by first | exact decide_eq_true (by omega) | (simp [e7]; done) | (simp; omega)
                      have E7 := Lib.hid (show decide (xtal.length = 1) = false from decide_eq_false (by omega))
                      clear e7
                      go_wp2_with (fail)
                      go_ret
                      exact ⟨by simp only [E3.out, E4.out, E5y.out, HSt.out, E7.out, Bool.and_true, Bool.and_false, Bool.false_and, Bool.or_true] <;> rfl, HO7.out⟩
              · have e5ya : (xcon == 2) = false := by first | exact decide_eq_false (by omega) | (simp [e5y]; done) | (simp; omega)
                have e5yb : (xcon != 2) = true := by first | exact decide_eq_true (by omega) | (simp [e5y]; done) | (simp; omega)
                have E5y := Lib.hid (show decide (xcon = 2) = false from decide_eq_false (by omega))
                clear e5y
                go_wp2_with (fail)
                go_ret
                exact ⟨by simp only [E0.out, E1.out, E2.out, E3.out, E4.out, E5x.out, E5y.out, Bool.and_true, Bool.and_false, Bool.false_and, Bool.or_false] <;> rfl, HO0.out⟩
          · have e4a : decide (2 < xcon) = true := by first | exact decide_eq_true (by omega) | (simp [e4]; done) | (simp; omega)
            have E4 := Lib.hid (show decide (xcon ≤ 2) = false from decide_eq_false (by omega))
            clear e4
            go_wp2_with (fail)
            go_ret
            exact ⟨by simp only [E0.out, E1.out, E2.out, E3.out, E4.out, Bool.and_true, Bool.and_false, Bool.false_and] <;> rfl, HO0.out⟩
        · have e3a : decide (xcon < 0) = true := by first | exact decide_eq_true (by omega) | (simp [e3]; done) | (simp; omega)
          have E3 := Lib.hid (show decide (0 ≤ xcon) = false from decide_eq_false (by omega))
          clear e3
          go_wp2_with (fail)
          go_ret
          exact ⟨by simp only [E0.out, E1.out, E2.out, E3.out, Bool.and_true, Bool.and_false, Bool.false_and] <;> rfl, HO0.out⟩
      · have e2a : decide (0 < xrulesl.length) = true := by first | exact decide_eq_true (by omega) | (simp [e2]; done) | (simp; omega)
        have e2b : decide ((0 : Int) < (xrulesl.length : Int)) = true := by first | exact decide_eq_true (by omega) | (simp [e2]; done) | (simp; omega)
        have E2 := Lib.hid (show decide (xrulesl.length = 0) = false from decide_eq_false (by omega))
        clear e2
        go_wp2_with (fail)
        go_ret
        exact ⟨by simp only [E0.out, E1.out, E2.out, Bool.and_true, Bool.and_false, Bool.false_and] <;> rfl, HO0.out⟩
    · have e1a : decide (0 < xlinksl.length) = true := by first | exact decide_eq_true (by omega) | (simp [e1]; done) | (simp; omega)
      have e1b : decide ((0 : Int) < (xlinksl.length : Int)) = true := by first | exact decide_eq_true (by omega) | (simp [e1]; done) | (simp; omega)
      have E1 := Lib.hid (show decide (xlinksl.length = 0) = false from decide_eq_false (by omega))
      clear e1
      go_wp2_with (fail)
      go_ret
      exact ⟨by simp only [E0.out, E1.out, Bool.and_false, Bool.false_and] <;> rfl, HO0.out⟩
  · have e0a : decide (0 < xpartsl.length) = true := by first | exact decide_eq_true (by omega) | (simp [e0]; done) | (simp; omega)
    have e0b : decide ((0 : Int) < (xpartsl.length : Int)) = true := by first | exact decide_eq_true (by omega) | (simp [e0]; done) | (simp; omega)
    have E0 := Lib.hid (show decide (xpartsl.length = 0) = false from decide_eq_false (by omega))
    clear e0
    go_wp2_with (fail)
    go_ret
    exact ⟨by simp only [E0.out, Bool.false_and] <;> rfl, HO0.out⟩
end Go.Proofs.YtfnacnlaphpflaaDoor
