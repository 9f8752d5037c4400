/- right, of names; Type, by names that are copied. -/
import Derived.Test.YtjhpckeoackblaaDoorOf
import Derived.Test.YtjhpckeoackblaaDoorTypeOf
import Derived.Test.YtjhpckeoackblaaDoorAwake
namespace Go.Proofs.YtjhpckeoackblaaDoor
open Go.RowKit Go.Kx
open Go.Val (Tt)
set_option maxRecDepth 100000
def okV (v : Vr) : Bool := v.t.tr.ok 3
def okP (v : Pr) : Bool := v.t.tr.ok 3
def nsB (vars : List Vr) (ports : List Pr) (of : List Vr) : Bool := (decide (vars.length ≤ 100) && decide (ports.length ≤ 100) && decide (of.length ≤ 100)) && (vars.all okV && ports.all okP && of.all okV)
theorem nsB_ok {vars : List Vr} {ports : List Pr} {of : List Vr} (h : nsB vars ports of = true) : OkN vars ports of ∧ vars.length ≤ 100 ∧ ports.length ≤ 100 ∧ of.length ≤ 100 := by
  simp only [nsB, Bool.and_eq_true, decide_eq_true_eq, List.all_eq_true] at h
  obtain ⟨⟨⟨h1, h2⟩, h3⟩, ⟨h4, h5⟩, h6⟩ := h
  exact ⟨⟨h4, h5, h6, by omega, by omega, by omega⟩, h1, h2, h3⟩
theorem all_at {α : Type} {p : α → Bool} {l : List α} {k : Nat} {v : α} (hv : l[k]? = some v) (hp : p v = false) : l.all p = false := by
  rw [List.all_eq_false]
  exact ⟨v, List.mem_of_getElem? hv, by simp [hp]⟩
set_option maxHeartbeats 8000000 in
theorem nsright_any {A1 : Option Addr} {c1 : Nat} {vars : List Vr} {A2 : Option Addr} {c2 : Nat} {ports : List Pr} {bag : Bool} {A3 : Option Addr} {c3 : Nat} {of : List Vr} {w : World} (hN : LiesN w A1 vars A2 ports A3 of) :
    Calls Tryd.prog 9 #[.agg #[.slice A1 vars.length c1, .slice A2 ports.length c2, .bool bag, .slice A3 of.length c3]] w fun r w' => r = .returned (.bool (nsB vars ports of)) ∧ Only [] w w' := by
  have HR1 := Lib.hid hN.vars
  have HR2 := Lib.hid hN.ports
  have HR3 := Lib.hid hN.of
  have hm1 := hN.vars.len
  have hm2 := hN.ports.len
  have hm3 := hN.of.len
  obtain ⟨n1, hn1⟩ : ∃ n, vars.length = n := ⟨_, rfl⟩
  obtain ⟨n2, hn2⟩ : ∃ n, ports.length = n := ⟨_, rfl⟩
  obtain ⟨n3, hn3⟩ : ∃ n, of.length = n := ⟨_, rfl⟩
  have HL1 := Lib.hid hn1
  have HL2 := Lib.hid hn2
  have HL3 := Lib.hid hn3
  rw [hn1] at hm1
  rw [hn2] at hm2
  rw [hn3] at hm3
  rw [hn1, hn2, hn3]
  have HNB0 := Lib.hid (Blk.new w 28 #[.slice A1 n1 c1, .slice A2 n2 c2, .bool bag, .slice A3 n3 c3])
  have HO0 := Lib.hid (show Only [] w (w.alloc (.cells #[.slice A1 n1 c1, .slice A2 n2 c2, .bool bag, .slice A3 n3 c3] 28)) from (Only.refl [] w).alloc _)
  clear hN hn1 hn2 hn3
  obtain ⟨b0, b1, b2, b3, bl⟩ := HNB0.out.facts4
  go_enter Tryd.func9, Tryd.ntmps9
  by_cases h1 : n1 ≤ 100
  · by_cases h2 : n2 ≤ 100
    · by_cases h3 : n3 ≤ 100
      · have d1 : decide ((100 : Int) < (n1 : Int)) = false := decide_eq_false (by omega)
        have d2 : decide ((100 : Int) < (n2 : Int)) = false := decide_eq_false (by omega)
        have d3 : decide ((100 : Int) < (n3 : Int)) = false := decide_eq_false (by omega)
        go_wp2_with (fail)
        obtain ⟨wp, hwp⟩ : ∃ wp : World, w.alloc (.cells #[.slice A1 n1 c1, .slice A2 n2 c2, .bool bag, .slice A3 n3 c3] 28) = wp := ⟨_, rfl⟩
        rw [hwp] at HNB0 HO0 ⊢
        have HNB := HNB0
        have HO := HO0
        have HS1 := Lib.hid (Only.refl [] wp)
        clear hwp b0 b1 b2 b3 bl d1 d2 d3 HNB0 HO0
        go_loopw [3] (fun i wr => ∃ k : Nat, i = .int .i64 k ∧ k ≤ n1 ∧ Hid ((vars.take k).all okV = true) ∧ Hid (Only [] wp wr)) (fun i _ => n1 - (intOf i).toNat)
        case atStart => exact ⟨0, rfl, Nat.zero_le _, Lib.hid (by simp), HS1⟩
        case round =>
          obtain ⟨k, rfl, hk, HQ, HOr⟩ := hrel
          have HNr := Lib.hid (HOr.out.blk HNB.out (by simp))
          obtain ⟨b0, b1, b2, b3, bl⟩ := HNr.out.facts4
          by_cases hlt : k < n1
          · obtain ⟨e, he⟩ : ∃ e, vars[k]? = some e := ⟨_, List.getElem?_eq_getElem (by rw [HL1.out]; exact hlt)⟩
            have HTK := Lib.hid (show (vars.take (k + 1)).all okV = ((vars.take k).all okV && okV e) from by rw [List.take_add_one, he, List.all_append]; simp)
            have HBAD := Lib.hid (fun h => all_at (p := okV) he h)
            have hcall := fun W (o : Only [] wr W) => refrightT e.t W ((HR1.out.sub e (List.mem_of_getElem? he)).1.keep ((HO.out.trans HOr.out (by simp)).trans o (by simp))) 3 (by omega)
            have hrow := (HR1.out.row k _ he).keep (HO.out.trans HOr.out (by simp))
            obtain ⟨pe, hpe⟩ : ∃ pe, okV e = pe := ⟨_, rfl⟩
            rw [hpe] at HTK HBAD
            replace hcall := fun W (o : Only [] wr W) => (show Calls Tryd.prog 13 #[e.t.val, .int .i64 3] W fun r w' => r = .returned (.bool pe) ∧ Only [] W w' by rw [← hpe]; exact hcall W o)
            obtain ⟨xp, xs, xk, xA, xcap, xl⟩ := e
            obtain ⟨bb, o, rfl, hbb, c0, c1, c2, c3⟩ := hrow.cells
            have HCA := Lib.hid (show ∀ W, Only [] wr W → Calls Tryd.prog 13 #[.agg #[.int .i64 xk, .slice xA xl.length xcap], .int .i64 3] W fun r w' => r = .returned (.bool pe) ∧ Only [] W w' from hcall)
            have ik0 : (0 : Int) ≤ (k : Int) := by omega
            have ik1 : (k : Int) < (n1 : Int) := by omega
            clear he hcall hpe hrow
            go_wp2_with (fail)
            refine (HCA.out _ (Only.refl _ _)).mono ?_
            rintro r w3 ⟨rfl, o3⟩
            have HO3 := Lib.hid (HOr.out.trans o3 (by simp))
            clear o3 c0 c1 c2 c3 hbb b0 b1 b2 b3 bl
            cases pe
            · go_wp2_with (fail)
              go_ret
              exact ⟨by have h := HBAD.out (by first | rfl | trivial); simp [nsB, h], HO.out.trans HO3.out (by simp)⟩
            · go_wp2_with (fail)
              go_roundw
              case rel => exact ⟨k + 1, by go_num, by omega, Lib.hid (by rw [HTK.out, HQ.out]; rfl), HO3⟩
              case measure => simp [intOf] <;> omega
          · have hke : k = n1 := by omega
            have iz : ¬ (n1 : Int) < (n1 : Int) := by omega
            have HV := Lib.hid (show vars.all okV = true by
              have h := HQ.out
              rw [hke, List.take_of_length_le (by rw [HL1.out]; exact Nat.le_refl _)] at h
              exact h)
            rw [hke]
            have HS2 := HOr
            clear hke hlt hk HQ
            go_wp2_with (fail)
            clear b0 b1 b2 b3 bl HNr iz
            go_loopw [4] (fun i wr => ∃ k : Nat, i = .int .i64 k ∧ k ≤ n2 ∧ Hid ((ports.take k).all okP = true) ∧ Hid (Only [] wp wr)) (fun i _ => n2 - (intOf i).toNat)
            case atStart => exact ⟨0, rfl, Nat.zero_le _, Lib.hid (by simp), HS2⟩
            case round =>
              obtain ⟨k, rfl, hk, HQ, HOr⟩ := hrel
              have HNr := Lib.hid (HOr.out.blk HNB.out (by simp))
              obtain ⟨b0, b1, b2, b3, bl⟩ := HNr.out.facts4
              by_cases hlt : k < n2
              · obtain ⟨e, he⟩ : ∃ e, ports[k]? = some e := ⟨_, List.getElem?_eq_getElem (by rw [HL2.out]; exact hlt)⟩
                have HTK := Lib.hid (show (ports.take (k + 1)).all okP = ((ports.take k).all okP && okP e) from by rw [List.take_add_one, he, List.all_append]; simp)
                have HBAD := Lib.hid (fun h => all_at (p := okP) he h)
                have hcall := fun W (o : Only [] wr W) => refrightT e.t W ((HR2.out.sub e (List.mem_of_getElem? he)).1.keep ((HO.out.trans HOr.out (by simp)).trans o (by simp))) 3 (by omega)
                have hrow := (HR2.out.row k _ he).keep (HO.out.trans HOr.out (by simp))
                obtain ⟨pe, hpe⟩ : ∃ pe, okP e = pe := ⟨_, rfl⟩
                rw [hpe] at HTK HBAD
                replace hcall := fun W (o : Only [] wr W) => (show Calls Tryd.prog 13 #[e.t.val, .int .i64 3] W fun r w' => r = .returned (.bool pe) ∧ Only [] W w' by rw [← hpe]; exact hcall W o)
                obtain ⟨xs, xk, xA, xcap, xl⟩ := e
                obtain ⟨bb, o, rfl, hbb, c0, c1, c2⟩ := hrow.cells
                have HCA := Lib.hid (show ∀ W, Only [] wr W → Calls Tryd.prog 13 #[.agg #[.int .i64 xk, .slice xA xl.length xcap], .int .i64 3] W fun r w' => r = .returned (.bool pe) ∧ Only [] W w' from hcall)
                have ik0 : (0 : Int) ≤ (k : Int) := by omega
                have ik1 : (k : Int) < (n2 : Int) := by omega
                clear he hcall hpe hrow
                go_wp2_with (fail)
                refine (HCA.out _ (Only.refl _ _)).mono ?_
                rintro r w3 ⟨rfl, o3⟩
                have HO3 := Lib.hid (HOr.out.trans o3 (by simp))
                clear o3 c0 c1 c2 hbb b0 b1 b2 b3 bl
                cases pe
                · go_wp2_with (fail)
                  go_ret
                  exact ⟨by have h := HBAD.out (by first | rfl | trivial); simp [nsB, h], HO.out.trans HO3.out (by simp)⟩
                · go_wp2_with (fail)
                  go_roundw
                  case rel => exact ⟨k + 1, by go_num, by omega, Lib.hid (by rw [HTK.out, HQ.out]; rfl), HO3⟩
                  case measure => simp [intOf] <;> omega
              · have hke : k = n2 := by omega
                have iz : ¬ (n2 : Int) < (n2 : Int) := by omega
                have HP := Lib.hid (show ports.all okP = true by
                  have h := HQ.out
                  rw [hke, List.take_of_length_le (by rw [HL2.out]; exact Nat.le_refl _)] at h
                  exact h)
                rw [hke]
                have HS3 := HOr
                clear hke hlt hk HQ
                go_wp2_with (fail)
                clear b0 b1 b2 b3 bl HNr iz
                go_loopw [5] (fun i wr => ∃ k : Nat, i = .int .i64 k ∧ k ≤ n3 ∧ Hid ((of.take k).all okV = true) ∧ Hid (Only [] wp wr)) (fun i _ => n3 - (intOf i).toNat)
                case atStart => exact ⟨0, rfl, Nat.zero_le _, Lib.hid (by simp), HS3⟩
                case round =>
                  obtain ⟨k, rfl, hk, HQ, HOr⟩ := hrel
                  have HNr := Lib.hid (HOr.out.blk HNB.out (by simp))
                  obtain ⟨b0, b1, b2, b3, bl⟩ := HNr.out.facts4
                  by_cases hlt : k < n3
                  · obtain ⟨e, he⟩ : ∃ e, of[k]? = some e := ⟨_, List.getElem?_eq_getElem (by rw [HL3.out]; exact hlt)⟩
                    have HTK := Lib.hid (show (of.take (k + 1)).all okV = ((of.take k).all okV && okV e) from by rw [List.take_add_one, he, List.all_append]; simp)
                    have HBAD := Lib.hid (fun h => all_at (p := okV) he h)
                    have hcall := fun W (o : Only [] wr W) => refrightT e.t W ((HR3.out.sub e (List.mem_of_getElem? he)).1.keep ((HO.out.trans HOr.out (by simp)).trans o (by simp))) 3 (by omega)
                    have hrow := (HR3.out.row k _ he).keep (HO.out.trans HOr.out (by simp))
                    obtain ⟨pe, hpe⟩ : ∃ pe, okV e = pe := ⟨_, rfl⟩
                    rw [hpe] at HTK HBAD
                    replace hcall := fun W (o : Only [] wr W) => (show Calls Tryd.prog 13 #[e.t.val, .int .i64 3] W fun r w' => r = .returned (.bool pe) ∧ Only [] W w' by rw [← hpe]; exact hcall W o)
                    obtain ⟨xp, xs, xk, xA, xcap, xl⟩ := e
                    obtain ⟨bb, o, rfl, hbb, c0, c1, c2, c3⟩ := hrow.cells
                    have HCA := Lib.hid (show ∀ W, Only [] wr W → Calls Tryd.prog 13 #[.agg #[.int .i64 xk, .slice xA xl.length xcap], .int .i64 3] W fun r w' => r = .returned (.bool pe) ∧ Only [] W w' from hcall)
                    have ik0 : (0 : Int) ≤ (k : Int) := by omega
                    have ik1 : (k : Int) < (n3 : Int) := by omega
                    clear he hcall hpe hrow
                    go_wp2_with (fail)
                    refine (HCA.out _ (Only.refl _ _)).mono ?_
                    rintro r w3 ⟨rfl, o3⟩
                    have HO3 := Lib.hid (HOr.out.trans o3 (by simp))
                    clear o3 c0 c1 c2 c3 hbb b0 b1 b2 b3 bl
                    cases pe
                    · go_wp2_with (fail)
                      go_ret
                      exact ⟨by have h := HBAD.out (by first | rfl | trivial); simp [nsB, h], HO.out.trans HO3.out (by simp)⟩
                    · go_wp2_with (fail)
                      go_roundw
                      case rel => exact ⟨k + 1, by go_num, by omega, Lib.hid (by rw [HTK.out, HQ.out]; rfl), HO3⟩
                      case measure => simp [intOf] <;> omega
                  · have hke : k = n3 := by omega
                    have iz : ¬ (n3 : Int) < (n3 : Int) := by omega
                    have HF := Lib.hid (show of.all okV = true by
                      have h := HQ.out
                      rw [hke, List.take_of_length_le (by rw [HL3.out]; exact Nat.le_refl _)] at h
                      exact h)
                    rw [hke]
                    have HS4 := HOr
                    clear hke hlt hk HQ
                    go_wp2_with (fail)
                    go_ret
                    exact ⟨by simp [nsB, HL1.out, HL2.out, HL3.out, h1, h2, h3, HV.out, HP.out, HF.out], HO.out.trans HOr.out (by simp)⟩
      · have d1 : decide ((100 : Int) < (n1 : Int)) = false := decide_eq_false (by omega)
        have d2 : decide ((100 : Int) < (n2 : Int)) = false := decide_eq_false (by omega)
        have d3 : decide ((100 : Int) < (n3 : Int)) = true := decide_eq_true (by omega)
        go_wp2_with (fail)
        go_ret
        exact ⟨by simp [nsB, HL3.out, h3], HO0.out⟩
    · have d1 : decide ((100 : Int) < (n1 : Int)) = false := decide_eq_false (by omega)
      have d2 : decide ((100 : Int) < (n2 : Int)) = true := decide_eq_true (by omega)
      go_wp2_with (fail)
      go_ret
      exact ⟨by simp [nsB, HL2.out, h2], HO0.out⟩
  · have d1 : decide ((100 : Int) < (n1 : Int)) = true := decide_eq_true (by omega)
    go_wp2_with (fail)
    go_ret
    exact ⟨by simp [nsB, HL1.out, h1], HO0.out⟩
end Go.Proofs.YtjhpckeoackblaaDoor
namespace Go.Proofs.YtjhpckeoackblaaDoor
open Go.RowKit Go.Kx
open Go.Val (Tt)
set_option maxRecDepth 100000
/-- of's answer, apart from the block g -/
def OfAt (vars : List Vr) (ports : List Pr) (of : List Vr) (A2 : Option Addr) (c2 : Nat) (bag : Bool) (g : Option Nat) (v : Value) (w : World) : Prop :=
  ∃ A1' c1' A3' c3', v = .agg #[.slice A1' vars.length c1', .slice A2 ports.length c2, .bool bag, .slice A3' of.length c3'] ∧ LiesN w A1' vars A2 ports A3' of ∧
    ∀ tb, g = some tb → (∀ (i : Nat) e, vars[i]? = some e → ∀ p, A1' = some p → p.block ≠ tb) ∧ (∀ (i : Nat) e, of[i]? = some e → ∀ p, A3' = some p → p.block ≠ tb)
section
variable {vars : List Vr} {ports : List Pr} {of : List Vr} {A2 : Option Addr} {c2 : Nat} {bag : Bool} {g : Option Nat} {v : Value} {w w' : World}
theorem OfAt.keep (o : Only [] w w') (h : OfAt vars ports of A2 c2 bag g v w) : OfAt vars ports of A2 c2 bag g v w' := by
  obtain ⟨A1', c1', A3', c3', h1, h2, h3⟩ := h
  exact ⟨A1', c1', A3', c3', h1, h2.keep o, h3⟩
theorem OfAt.laid (o : Only [] w w') (h : OfAt vars ports of A2 c2 bag g v w) : OfAt vars ports of A2 c2 bag (some w.heap.size) v w' := by
  obtain ⟨A1', c1', A3', c3', h1, h2, h3⟩ := h
  exact ⟨A1', c1', A3', c3', h1, h2.keep o, fun tb hg => by injection hg with hg; subst hg; exact ⟨fun i e he p hp => Nat.ne_of_lt (h2.vars.low.1 i e he p hp), fun i e he p hp => Nat.ne_of_lt (h2.of.low.1 i e he p hp)⟩⟩
theorem OfAt.set {B tb : Nat} (hLW : LowN B vars ports of) (hPL : ∀ (i : Nat) e, ports[i]? = some e → ∀ p, A2 = some p → p.block < B) (hB : B ≤ tb) (hg : g = some tb) (o : Only [tb] w w') (h : OfAt vars ports of A2 c2 bag g v w) : OfAt vars ports of A2 c2 bag g v w' := by
  obtain ⟨A1', c1', A3', c3', h1, h2, h3⟩ := h
  have h4 := h3 tb hg
  exact ⟨A1', c1', A3', c3', h1, ⟨h2.vars.onlyG o (fun i e he p hp => by simpa using h4.1 i e he p hp) (fun e he b hb => by have := hLW.vars e he b hb; simp; omega), h2.ports.onlyG o (fun i e he p hp => by have := hPL i e he p hp; simp; omega) (fun e he b hb => by have := hLW.ports e he b hb; simp; omega), h2.of.onlyG o (fun i e he p hp => by simpa using h4.2 i e he p hp) (fun e he b hb => by have := hLW.of e he b hb; simp; omega)⟩, h3⟩
end
def FL (B0 : Nat) (wq : World) (p : Tt × Int) (ve vn : Value) (O : Option Nat → Value → World → Prop) (g : Option Nat) (i : Nat) (v : Value) (w : World) : Prop :=
  match i with
  | 0 => v = ve
  | 1 => v = vn
  | 2 => O g v w
  | 3 => ∃ yk yA ycap yl, v = .tuple #[.agg #[.int .i64 yk, .slice yA (List.length yl) ycap], .int .i64 p.2] ∧ TK B0 wq.heap.size w p.1 (.mk yk yA ycap yl) ∧ ∀ tb, g = some tb → tb ∉ (Tx.mk yk yA ycap yl).bks
  | 4 => ∃ yk yA ycap yl, v = .tuple #[.agg #[.int .i64 yk, .slice yA (List.length yl) ycap], .int .i64 p.2] ∧ TK B0 wq.heap.size w p.1 (.mk yk yA ycap yl) ∧ ∀ tb, g = some tb → tb ∉ (Tx.mk yk yA ycap yl).bks
  | 5 => ∃ yk yA ycap yl, v = .agg #[.int .i64 yk, .slice yA (List.length yl) ycap] ∧ TK B0 wq.heap.size w p.1 (.mk yk yA ycap yl) ∧ ∀ tb, g = some tb → tb ∉ (Tx.mk yk yA ycap yl).bks
  | 6 => v = .int .i64 p.2
  | 7 => ∃ tb, g = some tb ∧ v = .pointer (some ⟨tb, 0, none⟩)
  | 8 => ∃ tb yk yA ycap yl, g = some tb ∧ Blk w tb 34 #[.int .i64 yk, .slice yA (List.length yl) ycap] ∧ TK B0 wq.heap.size w p.1 (.mk yk yA ycap yl) ∧ tb ∉ (Tx.mk yk yA ycap yl).bks
  | _ => True
section
variable {B0 : Nat} {wq : World} {p : Tt × Int} {ve vn : Value} {O : Option Nat → Value → World → Prop} {g : Option Nat} {i : Nat} {v : Value} {w w' : World}
theorem FL.keep (o : Only [] w w') (hO : O g v w → O g v w') (h : FL B0 wq p ve vn O g i v w) : FL B0 wq p ve vn O g i v w' := by
  unfold FL at h ⊢
  split at h <;> first | exact h | exact hO h | (obtain ⟨yk, yA, ycap, yl, h1, h2, h3⟩ := h; exact ⟨yk, yA, ycap, yl, h1, h2.keep o, h3⟩) | (obtain ⟨tb, yk, yA, ycap, yl, h1, h2, h3, h4⟩ := h; exact ⟨tb, yk, yA, ycap, yl, h1, o.blk h2 (by simp), h3.keep o, h4⟩)
theorem FL.laid (hi : i ≠ 7) (hi' : i ≠ 8) (o : Only [] w w') (hO : O g v w → O (some w.heap.size) v w') (h : FL B0 wq p ve vn O g i v w) : FL B0 wq p ve vn O (some w.heap.size) i v w' := by
  unfold FL at h ⊢
  split at h <;> first | exact absurd rfl hi | exact absurd rfl hi' | exact h | exact hO h | (obtain ⟨yk, yA, ycap, yl, h1, h2, h3⟩ := h; exact ⟨yk, yA, ycap, yl, h1, h2.keep o, fun tb hg hm => by injection hg with hg; subst hg; have := h2.lies.lt _ hm; omega⟩)
theorem FL.set {tb : Nat} (hg : g = some tb) (hi : i ≠ 8) (o : Only [tb] w w') (hO : O g v w → O g v w') (h : FL B0 wq p ve vn O g i v w) : FL B0 wq p ve vn O g i v w' := by
  unfold FL at h ⊢
  split at h <;> first | exact absurd rfl hi | exact h | exact hO h | (obtain ⟨yk, yA, ycap, yl, h1, h2, h3⟩ := h; exact ⟨yk, yA, ycap, yl, h1, ⟨h2.tr, h2.lies.only o (fun x hx hm => by simp at hm; subst hm; exact h3 _ hg hx), h2.off⟩, h3⟩)
end
end Go.Proofs.YtjhpckeoackblaaDoor
namespace Go.Proofs.YtjhpckeoackblaaDoor
open Go.RowKit Go.Kx
open Go.Val (Tt)
set_option maxRecDepth 100000
theorem LowN.mono {B B' : Nat} {vars : List Vr} {ports : List Pr} {of : List Vr} (h : LowN B vars ports of) (hB : B ≤ B') : LowN B' vars ports of :=
  ⟨fun v hv b hb => Nat.lt_of_lt_of_le (h.vars v hv b hb) hB, fun v hv b hb => Nat.lt_of_lt_of_le (h.ports v hv b hb) hB, fun v hv b hb => Nat.lt_of_lt_of_le (h.of v hv b hb) hB⟩
end Go.Proofs.YtjhpckeoackblaaDoor
