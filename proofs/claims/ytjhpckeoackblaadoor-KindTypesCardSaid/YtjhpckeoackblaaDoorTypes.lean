/- KindTypes. -/
import Derived.Test.YtjhpckeoackblaaDoorOf
import Derived.Test.YtjhpckeoackblaaDoorTypeOf
import Derived.Test.YtjhpckeoackblaaDoorSmall
import Derived.Test.YtjhpckeoackblaaDoorAwake
namespace Go.Proofs.YtjhpckeoackblaaDoor
open Go.RowKit Go.Kx
open Go.Val (Tt)
set_option maxRecDepth 100000
def okV (v : Vr) : Bool := v.t.tr.ok 3
def okP (v : Pr) : Bool := v.t.tr.ok 3
def nsB (vars : List Vr) (ports : List Pr) (of : List Vr) : Bool := (decide (vars.length ≤ 100) && decide (ports.length ≤ 100) && decide (of.length ≤ 100)) && (vars.all okV && ports.all okP && of.all okV)
theorem nsB_ok {vars : List Vr} {ports : List Pr} {of : List Vr} (h : nsB vars ports of = true) : OkN vars ports of ∧ vars.length ≤ 100 ∧ ports.length ≤ 100 ∧ of.length ≤ 100 := by
  simp only [nsB, Bool.and_eq_true, decide_eq_true_eq, List.all_eq_true] at h
  obtain ⟨⟨⟨h1, h2⟩, h3⟩, ⟨h4, h5⟩, h6⟩ := h
  exact ⟨⟨h4, h5, h6, by omega, by omega, by omega⟩, h1, h2, h3⟩
theorem all_at {α : Type} {p : α → Bool} {l : List α} {k : Nat} {v : α} (hv : l[k]? = some v) (hp : p v = false) : l.all p = false := by
  rw [List.all_eq_false]
  exact ⟨v, List.mem_of_getElem? hv, by simp [hp]⟩
set_option maxHeartbeats 8000000 in
theorem nsright_any {A1 : Option Addr} {c1 : Nat} {vars : List Vr} {A2 : Option Addr} {c2 : Nat} {ports : List Pr} {bag : Bool} {A3 : Option Addr} {c3 : Nat} {of : List Vr} {w : World} (hN : LiesN w A1 vars A2 ports A3 of) :
    Calls Tryd.prog 9 #[.agg #[.slice A1 vars.length c1, .slice A2 ports.length c2, .bool bag, .slice A3 of.length c3]] w fun r w' => r = .returned (.bool (nsB vars ports of)) ∧ Only [] w w' := by
  have HR1 := Lib.hid hN.vars
  have HR2 := Lib.hid hN.ports
  have HR3 := Lib.hid hN.of
  have hm1 := hN.vars.len
  have hm2 := hN.ports.len
  have hm3 := hN.of.len
  obtain ⟨n1, hn1⟩ : ∃ n, vars.length = n := ⟨_, rfl⟩
  obtain ⟨n2, hn2⟩ : ∃ n, ports.length = n := ⟨_, rfl⟩
  obtain ⟨n3, hn3⟩ : ∃ n, of.length = n := ⟨_, rfl⟩
  have HL1 := Lib.hid hn1
  have HL2 := Lib.hid hn2
  have HL3 := Lib.hid hn3
  rw [hn1] at hm1
  rw [hn2] at hm2
  rw [hn3] at hm3
  rw [hn1, hn2, hn3]
  have HNB0 := Lib.hid (Blk.new w 28 #[.slice A1 n1 c1, .slice A2 n2 c2, .bool bag, .slice A3 n3 c3])
  have HO0 := Lib.hid (show Only [] w (w.alloc (.cells #[.slice A1 n1 c1, .slice A2 n2 c2, .bool bag, .slice A3 n3 c3] 28)) from (Only.refl [] w).alloc _)
  clear hN hn1 hn2 hn3
  obtain ⟨b0, b1, b2, b3, bl⟩ := HNB0.out.facts4
  go_enter Tryd.func9, Tryd.ntmps9
  by_cases h1 : n1 ≤ 100
  · by_cases h2 : n2 ≤ 100
    · by_cases h3 : n3 ≤ 100
      · have d1 : decide ((100 : Int) < (n1 : Int)) = false := decide_eq_false (by omega)
        have d2 : decide ((100 : Int) < (n2 : Int)) = false := decide_eq_false (by omega)
        have d3 : decide ((100 : Int) < (n3 : Int)) = false := decide_eq_false (by omega)
        go_wp2_with (fail)
        obtain ⟨wp, hwp⟩ : ∃ wp : World, w.alloc (.cells #[.slice A1 n1 c1, .slice A2 n2 c2, .bool bag, .slice A3 n3 c3] 28) = wp := ⟨_, rfl⟩
        rw [hwp] at HNB0 HO0 ⊢
        have HNB := HNB0
        have HO := HO0
        have HS1 := Lib.hid (Only.refl [] wp)
        clear hwp b0 b1 b2 b3 bl d1 d2 d3 HNB0 HO0
        go_loopw [3] (fun i wr => ∃ k : Nat, i = .int .i64 k ∧ k ≤ n1 ∧ Hid ((vars.take k).all okV = true) ∧ Hid (Only [] wp wr)) (fun i _ => n1 - (intOf i).toNat)
        case atStart => exact ⟨0, rfl, Nat.zero_le _, Lib.hid (by simp), HS1⟩
        case round =>
          obtain ⟨k, rfl, hk, HQ, HOr⟩ := hrel
          have HNr := Lib.hid (HOr.out.blk HNB.out (by simp))
          obtain ⟨b0, b1, b2, b3, bl⟩ := HNr.out.facts4
          by_cases hlt : k < n1
          · obtain ⟨e, he⟩ : ∃ e, vars[k]? = some e := ⟨_, List.getElem?_eq_getElem (by rw [HL1.out]; exact hlt)⟩
            have HTK := Lib.hid (show (vars.take (k + 1)).all okV = ((vars.take k).all okV && okV e) from by rw [List.take_add_one, he, List.all_append]; simp)
            have HBAD := Lib.hid (fun h => all_at (p := okV) he h)
            have hcall := fun W (o : Only [] wr W) => refrightT e.t W ((HR1.out.sub e (List.mem_of_getElem? he)).1.keep ((HO.out.trans HOr.out (by simp)).trans o (by simp))) 3 (by omega)
            have hrow := (HR1.out.row k _ he).keep (HO.out.trans HOr.out (by simp))
            obtain ⟨pe, hpe⟩ : ∃ pe, okV e = pe := ⟨_, rfl⟩
            rw [hpe] at HTK HBAD
            replace hcall := fun W (o : Only [] wr W) => (show Calls Tryd.prog 13 #[e.t.val, .int .i64 3] W fun r w' => r = .returned (.bool pe) ∧ Only [] W w' by rw [← hpe]; exact hcall W o)
            obtain ⟨xp, xs, xk, xA, xcap, xl⟩ := e
            obtain ⟨bb, o, rfl, hbb, c0, c1, c2, c3⟩ := hrow.cells
            have HCA := Lib.hid (show ∀ W, Only [] wr W → Calls Tryd.prog 13 #[.agg #[.int .i64 xk, .slice xA xl.length xcap], .int .i64 3] W fun r w' => r = .returned (.bool pe) ∧ Only [] W w' from hcall)
            have ik0 : (0 : Int) ≤ (k : Int) := by omega
            have ik1 : (k : Int) < (n1 : Int) := by omega
            clear he hcall hpe hrow
            go_wp2_with (fail)
            refine (HCA.out _ (Only.refl _ _)).mono ?_
            rintro r w3 ⟨rfl, o3⟩
            have HO3 := Lib.hid (HOr.out.trans o3 (by simp))
            clear o3 c0 c1 c2 c3 hbb b0 b1 b2 b3 bl
            cases pe
            · go_wp2_with (fail)
              go_ret
              exact ⟨by have h := HBAD.out (by first | rfl | trivial); simp [nsB, h], HO.out.trans HO3.out (by simp)⟩
            · go_wp2_with (fail)
              go_roundw
              case rel => exact ⟨k + 1, by go_num, by omega, Lib.hid (by rw [HTK.out, HQ.out]; rfl), HO3⟩
              case measure => simp [intOf] <;> omega
          · have hke : k = n1 := by omega
            have iz : ¬ (n1 : Int) < (n1 : Int) := by omega
            have HV := Lib.hid (show vars.all okV = true by
              have h := HQ.out
              rw [hke, List.take_of_length_le (by rw [HL1.out]; exact Nat.le_refl _)] at h
              exact h)
            rw [hke]
            have HS2 := HOr
            clear hke hlt hk HQ
            go_wp2_with (fail)
            clear b0 b1 b2 b3 bl HNr iz
            go_loopw [4] (fun i wr => ∃ k : Nat, i = .int .i64 k ∧ k ≤ n2 ∧ Hid ((ports.take k).all okP = true) ∧ Hid (Only [] wp wr)) (fun i _ => n2 - (intOf i).toNat)
            case atStart => exact ⟨0, rfl, Nat.zero_le _, Lib.hid (by simp), HS2⟩
            case round =>
              obtain ⟨k, rfl, hk, HQ, HOr⟩ := hrel
              have HNr := Lib.hid (HOr.out.blk HNB.out (by simp))
              obtain ⟨b0, b1, b2, b3, bl⟩ := HNr.out.facts4
              by_cases hlt : k < n2
              · obtain ⟨e, he⟩ : ∃ e, ports[k]? = some e := ⟨_, List.getElem?_eq_getElem (by rw [HL2.out]; exact hlt)⟩
                have HTK := Lib.hid (show (ports.take (k + 1)).all okP = ((ports.take k).all okP && okP e) from by rw [List.take_add_one, he, List.all_append]; simp)
                have HBAD := Lib.hid (fun h => all_at (p := okP) he h)
                have hcall := fun W (o : Only [] wr W) => refrightT e.t W ((HR2.out.sub e (List.mem_of_getElem? he)).1.keep ((HO.out.trans HOr.out (by simp)).trans o (by simp))) 3 (by omega)
                have hrow := (HR2.out.row k _ he).keep (HO.out.trans HOr.out (by simp))
                obtain ⟨pe, hpe⟩ : ∃ pe, okP e = pe := ⟨_, rfl⟩
                rw [hpe] at HTK HBAD
                replace hcall := fun W (o : Only [] wr W) => (show Calls Tryd.prog 13 #[e.t.val, .int .i64 3] W fun r w' => r = .returned (.bool pe) ∧ Only [] W w' by rw [← hpe]; exact hcall W o)
                obtain ⟨xs, xk, xA, xcap, xl⟩ := e
                obtain ⟨bb, o, rfl, hbb, c0, c1, c2⟩ := hrow.cells
                have HCA := Lib.hid (show ∀ W, Only [] wr W → Calls Tryd.prog 13 #[.agg #[.int .i64 xk, .slice xA xl.length xcap], .int .i64 3] W fun r w' => r = .returned (.bool pe) ∧ Only [] W w' from hcall)
                have ik0 : (0 : Int) ≤ (k : Int) := by omega
                have ik1 : (k : Int) < (n2 : Int) := by omega
                clear he hcall hpe hrow
                go_wp2_with (fail)
                refine (HCA.out _ (Only.refl _ _)).mono ?_
                rintro r w3 ⟨rfl, o3⟩
                have HO3 := Lib.hid (HOr.out.trans o3 (by simp))
                clear o3 c0 c1 c2 hbb b0 b1 b2 b3 bl
                cases pe
                · go_wp2_with (fail)
                  go_ret
                  exact ⟨by have h := HBAD.out (by first | rfl | trivial); simp [nsB, h], HO.out.trans HO3.out (by simp)⟩
                · go_wp2_with (fail)
                  go_roundw
                  case rel => exact ⟨k + 1, by go_num, by omega, Lib.hid (by rw [HTK.out, HQ.out]; rfl), HO3⟩
                  case measure => simp [intOf] <;> omega
              · have hke : k = n2 := by omega
                have iz : ¬ (n2 : Int) < (n2 : Int) := by omega
                have HP := Lib.hid (show ports.all okP = true by
                  have h := HQ.out
                  rw [hke, List.take_of_length_le (by rw [HL2.out]; exact Nat.le_refl _)] at h
                  exact h)
                rw [hke]
                have HS3 := HOr
                clear hke hlt hk HQ
                go_wp2_with (fail)
                clear b0 b1 b2 b3 bl HNr iz
                go_loopw [5] (fun i wr => ∃ k : Nat, i = .int .i64 k ∧ k ≤ n3 ∧ Hid ((of.take k).all okV = true) ∧ Hid (Only [] wp wr)) (fun i _ => n3 - (intOf i).toNat)
                case atStart => exact ⟨0, rfl, Nat.zero_le _, Lib.hid (by simp), HS3⟩
                case round =>
                  obtain ⟨k, rfl, hk, HQ, HOr⟩ := hrel
                  have HNr := Lib.hid (HOr.out.blk HNB.out (by simp))
                  obtain ⟨b0, b1, b2, b3, bl⟩ := HNr.out.facts4
                  by_cases hlt : k < n3
                  · obtain ⟨e, he⟩ : ∃ e, of[k]? = some e := ⟨_, List.getElem?_eq_getElem (by rw [HL3.out]; exact hlt)⟩
                    have HTK := Lib.hid (show (of.take (k + 1)).all okV = ((of.take k).all okV && okV e) from by rw [List.take_add_one, he, List.all_append]; simp)
                    have HBAD := Lib.hid (fun h => all_at (p := okV) he h)
                    have hcall := fun W (o : Only [] wr W) => refrightT e.t W ((HR3.out.sub e (List.mem_of_getElem? he)).1.keep ((HO.out.trans HOr.out (by simp)).trans o (by simp))) 3 (by omega)
                    have hrow := (HR3.out.row k _ he).keep (HO.out.trans HOr.out (by simp))
                    obtain ⟨pe, hpe⟩ : ∃ pe, okV e = pe := ⟨_, rfl⟩
                    rw [hpe] at HTK HBAD
                    replace hcall := fun W (o : Only [] wr W) => (show Calls Tryd.prog 13 #[e.t.val, .int .i64 3] W fun r w' => r = .returned (.bool pe) ∧ Only [] W w' by rw [← hpe]; exact hcall W o)
                    obtain ⟨xp, xs, xk, xA, xcap, xl⟩ := e
                    obtain ⟨bb, o, rfl, hbb, c0, c1, c2, c3⟩ := hrow.cells
                    have HCA := Lib.hid (show ∀ W, Only [] wr W → Calls Tryd.prog 13 #[.agg #[.int .i64 xk, .slice xA xl.length xcap], .int .i64 3] W fun r w' => r = .returned (.bool pe) ∧ Only [] W w' from hcall)
                    have ik0 : (0 : Int) ≤ (k : Int) := by omega
                    have ik1 : (k : Int) < (n3 : Int) := by omega
                    clear he hcall hpe hrow
                    go_wp2_with (fail)
                    refine (HCA.out _ (Only.refl _ _)).mono ?_
                    rintro r w3 ⟨rfl, o3⟩
                    have HO3 := Lib.hid (HOr.out.trans o3 (by simp))
                    clear o3 c0 c1 c2 c3 hbb b0 b1 b2 b3 bl
                    cases pe
                    · go_wp2_with (fail)
                      go_ret
                      exact ⟨by have h := HBAD.out (by first | rfl | trivial); simp [nsB, h], HO.out.trans HO3.out (by simp)⟩
                    · go_wp2_with (fail)
                      go_roundw
                      case rel => exact ⟨k + 1, by go_num, by omega, Lib.hid (by rw [HTK.out, HQ.out]; rfl), HO3⟩
                      case measure => simp [intOf] <;> omega
                  · have hke : k = n3 := by omega
                    have iz : ¬ (n3 : Int) < (n3 : Int) := by omega
                    have HF := Lib.hid (show of.all okV = true by
                      have h := HQ.out
                      rw [hke, List.take_of_length_le (by rw [HL3.out]; exact Nat.le_refl _)] at h
                      exact h)
                    rw [hke]
                    have HS4 := HOr
                    clear hke hlt hk HQ
                    go_wp2_with (fail)
                    go_ret
                    exact ⟨by simp [nsB, HL1.out, HL2.out, HL3.out, h1, h2, h3, HV.out, HP.out, HF.out], HO.out.trans HOr.out (by simp)⟩
      · have d1 : decide ((100 : Int) < (n1 : Int)) = false := decide_eq_false (by omega)
        have d2 : decide ((100 : Int) < (n2 : Int)) = false := decide_eq_false (by omega)
        have d3 : decide ((100 : Int) < (n3 : Int)) = true := decide_eq_true (by omega)
        go_wp2_with (fail)
        go_ret
        exact ⟨by simp [nsB, HL3.out, h3], HO0.out⟩
    · have d1 : decide ((100 : Int) < (n1 : Int)) = false := decide_eq_false (by omega)
      have d2 : decide ((100 : Int) < (n2 : Int)) = true := decide_eq_true (by omega)
      go_wp2_with (fail)
      go_ret
      exact ⟨by simp [nsB, HL2.out, h2], HO0.out⟩
  · have d1 : decide ((100 : Int) < (n1 : Int)) = true := decide_eq_true (by omega)
    go_wp2_with (fail)
    go_ret
    exact ⟨by simp [nsB, HL1.out, h1], HO0.out⟩
end Go.Proofs.YtjhpckeoackblaaDoor
namespace Go.Proofs.YtjhpckeoackblaaDoor
open Go.RowKit Go.Kx
open Go.Val (Tt)
set_option maxRecDepth 100000
/-- of's answer, apart from the block g -/
def OfAt (vars : List Vr) (ports : List Pr) (of : List Vr) (A2 : Option Addr) (c2 : Nat) (bag : Bool) (g : Option Nat) (v : Value) (w : World) : Prop :=
  ∃ A1' c1' A3' c3', v = .agg #[.slice A1' vars.length c1', .slice A2 ports.length c2, .bool bag, .slice A3' of.length c3'] ∧ LiesN w A1' vars A2 ports A3' of ∧
    ∀ tb, g = some tb → (∀ (i : Nat) e, vars[i]? = some e → ∀ p, A1' = some p → p.block ≠ tb) ∧ (∀ (i : Nat) e, of[i]? = some e → ∀ p, A3' = some p → p.block ≠ tb)
section
variable {vars : List Vr} {ports : List Pr} {of : List Vr} {A2 : Option Addr} {c2 : Nat} {bag : Bool} {g : Option Nat} {v : Value} {w w' : World}
theorem OfAt.keep (o : Only [] w w') (h : OfAt vars ports of A2 c2 bag g v w) : OfAt vars ports of A2 c2 bag g v w' := by
  obtain ⟨A1', c1', A3', c3', h1, h2, h3⟩ := h
  exact ⟨A1', c1', A3', c3', h1, h2.keep o, h3⟩
theorem OfAt.laid (o : Only [] w w') (h : OfAt vars ports of A2 c2 bag g v w) : OfAt vars ports of A2 c2 bag (some w.heap.size) v w' := by
  obtain ⟨A1', c1', A3', c3', h1, h2, h3⟩ := h
  exact ⟨A1', c1', A3', c3', h1, h2.keep o, fun tb hg => by injection hg with hg; subst hg; exact ⟨fun i e he p hp => Nat.ne_of_lt (h2.vars.low.1 i e he p hp), fun i e he p hp => Nat.ne_of_lt (h2.of.low.1 i e he p hp)⟩⟩
theorem OfAt.set {B tb : Nat} (hLW : LowN B vars ports of) (hPL : ∀ (i : Nat) e, ports[i]? = some e → ∀ p, A2 = some p → p.block < B) (hB : B ≤ tb) (hg : g = some tb) (o : Only [tb] w w') (h : OfAt vars ports of A2 c2 bag g v w) : OfAt vars ports of A2 c2 bag g v w' := by
  obtain ⟨A1', c1', A3', c3', h1, h2, h3⟩ := h
  have h4 := h3 tb hg
  exact ⟨A1', c1', A3', c3', h1, ⟨h2.vars.onlyG o (fun i e he p hp => by simpa using h4.1 i e he p hp) (fun e he b hb => by have := hLW.vars e he b hb; simp; omega), h2.ports.onlyG o (fun i e he p hp => by have := hPL i e he p hp; simp; omega) (fun e he b hb => by have := hLW.ports e he b hb; simp; omega), h2.of.onlyG o (fun i e he p hp => by simpa using h4.2 i e he p hp) (fun e he b hb => by have := hLW.of e he b hb; simp; omega)⟩, h3⟩
end
def FL (B0 : Nat) (wq : World) (p : Tt × Int) (ve vn : Value) (O : Option Nat → Value → World → Prop) (g : Option Nat) (i : Nat) (v : Value) (w : World) : Prop :=
  match i with
  | 0 => v = ve
  | 1 => v = vn
  | 2 => O g v w
  | 3 => ∃ yk yA ycap yl, v = .tuple #[.agg #[.int .i64 yk, .slice yA (List.length yl) ycap], .int .i64 p.2] ∧ TK B0 wq.heap.size w p.1 (.mk yk yA ycap yl) ∧ ∀ tb, g = some tb → tb ∉ (Tx.mk yk yA ycap yl).bks
  | 4 => ∃ yk yA ycap yl, v = .tuple #[.agg #[.int .i64 yk, .slice yA (List.length yl) ycap], .int .i64 p.2] ∧ TK B0 wq.heap.size w p.1 (.mk yk yA ycap yl) ∧ ∀ tb, g = some tb → tb ∉ (Tx.mk yk yA ycap yl).bks
  | 5 => ∃ yk yA ycap yl, v = .agg #[.int .i64 yk, .slice yA (List.length yl) ycap] ∧ TK B0 wq.heap.size w p.1 (.mk yk yA ycap yl) ∧ ∀ tb, g = some tb → tb ∉ (Tx.mk yk yA ycap yl).bks
  | 6 => v = .int .i64 p.2
  | 7 => ∃ tb, g = some tb ∧ v = .pointer (some ⟨tb, 0, none⟩)
  | 8 => ∃ tb yk yA ycap yl, g = some tb ∧ Blk w tb 34 #[.int .i64 yk, .slice yA (List.length yl) ycap] ∧ TK B0 wq.heap.size w p.1 (.mk yk yA ycap yl) ∧ tb ∉ (Tx.mk yk yA ycap yl).bks
  | _ => True
section
variable {B0 : Nat} {wq : World} {p : Tt × Int} {ve vn : Value} {O : Option Nat → Value → World → Prop} {g : Option Nat} {i : Nat} {v : Value} {w w' : World}
theorem FL.keep (o : Only [] w w') (hO : O g v w → O g v w') (h : FL B0 wq p ve vn O g i v w) : FL B0 wq p ve vn O g i v w' := by
  unfold FL at h ⊢
  split at h <;> first | exact h | exact hO h | (obtain ⟨yk, yA, ycap, yl, h1, h2, h3⟩ := h; exact ⟨yk, yA, ycap, yl, h1, h2.keep o, h3⟩) | (obtain ⟨tb, yk, yA, ycap, yl, h1, h2, h3, h4⟩ := h; exact ⟨tb, yk, yA, ycap, yl, h1, o.blk h2 (by simp), h3.keep o, h4⟩)
theorem FL.laid (hi : i ≠ 7) (hi' : i ≠ 8) (o : Only [] w w') (hO : O g v w → O (some w.heap.size) v w') (h : FL B0 wq p ve vn O g i v w) : FL B0 wq p ve vn O (some w.heap.size) i v w' := by
  unfold FL at h ⊢
  split at h <;> first | exact absurd rfl hi | exact absurd rfl hi' | exact h | exact hO h | (obtain ⟨yk, yA, ycap, yl, h1, h2, h3⟩ := h; exact ⟨yk, yA, ycap, yl, h1, h2.keep o, fun tb hg hm => by injection hg with hg; subst hg; have := h2.lies.lt _ hm; omega⟩)
theorem FL.set {tb : Nat} (hg : g = some tb) (hi : i ≠ 8) (o : Only [tb] w w') (hO : O g v w → O g v w') (h : FL B0 wq p ve vn O g i v w) : FL B0 wq p ve vn O g i v w' := by
  unfold FL at h ⊢
  split at h <;> first | exact absurd rfl hi | exact h | exact hO h | (obtain ⟨yk, yA, ycap, yl, h1, h2, h3⟩ := h; exact ⟨yk, yA, ycap, yl, h1, ⟨h2.tr, h2.lies.only o (fun x hx hm => by simp at hm; subst hm; exact h3 _ hg hx), h2.off⟩, h3⟩)
end
end Go.Proofs.YtjhpckeoackblaaDoor
namespace Go.Proofs.YtjhpckeoackblaaDoor
open Go.RowKit Go.Kx
open Go.Val (Tt)
set_option maxRecDepth 100000
theorem LowN.mono {B B' : Nat} {vars : List Vr} {ports : List Pr} {of : List Vr} (h : LowN B vars ports of) (hB : B ≤ B') : LowN B' vars ports of :=
  ⟨fun v hv b hb => Nat.lt_of_lt_of_le (h.vars v hv b hb) hB, fun v hv b hb => Nat.lt_of_lt_of_le (h.ports v hv b hb) hB, fun v hv b hb => Nat.lt_of_lt_of_le (h.of v hv b hb) hB⟩
set_option maxHeartbeats 16000000 in
theorem types_law {A1 : Option Addr} {c1 : Nat} {vars : List Vr} {A2 : Option Addr} {c2 : Nat} {ports : List Pr} {bag : Bool} {A3 : Option Addr} {c3 : Nat} {of : List Vr} {op n : Int} {nm sb : ByteArray} {A : Option Addr} {cap : Nat} {args : List Ex} {w : World} (hL : Lies w (.mk op n nm sb A cap args)) (hN : LiesN w A1 vars A2 ports A3 of) (hW : WordsIs w) :
    Calls Tryd.prog 4 #[.agg #[.int .i64 op, .int .i64 n, .string nm, .string sb, .slice A args.length cap], .agg #[.slice A1 vars.length c1, .slice A2 ports.length c2, .bool bag, .slice A3 of.length c3]] w fun r w' => r = .returned (.bool true) ∧ Only [] w w' := by
  have h0 := Blk.new w 24 #[.int .i64 op, .int .i64 n, .string nm, .string sb, .slice A args.length cap]
  have h1 := Blk.new (w.alloc (.cells #[.int .i64 op, .int .i64 n, .string nm, .string sb, .slice A args.length cap] 24)) 28 #[.slice A1 vars.length c1, .slice A2 ports.length c2, .bool bag, .slice A3 of.length c3]
  simp only [World.size_alloc] at h1
  have HX0 := Lib.hid (show Blk ((w.alloc (.cells #[.int .i64 op, .int .i64 n, .string nm, .string sb, .slice A args.length cap] 24)).alloc (.cells #[.slice A1 vars.length c1, .slice A2 ports.length c2, .bool bag, .slice A3 of.length c3] 28)) w.heap.size 24 #[.int .i64 op, .int .i64 n, .string nm, .string sb, .slice A args.length cap] from h0.alloc _)
  have HN0 := Lib.hid h1
  have HO0 := Lib.hid (show Only [] w ((w.alloc (.cells #[.int .i64 op, .int .i64 n, .string nm, .string sb, .slice A args.length cap] 24)).alloc (.cells #[.slice A1 vars.length c1, .slice A2 ports.length c2, .bool bag, .slice A3 of.length c3] 28)) from ((Only.refl [] w).alloc _).alloc _)
  have HLE := Lib.hid hL
  have HNM := Lib.hid hN
  have HWD := Lib.hid hW
  have HL0 := Lib.hid hN.low
  have HP0 := Lib.hid hN.ports.low.1
  have CS := Lib.hid (fun W (o : Only [] w W) => (show Calls Tryd.prog 8 #[.agg #[.int .i64 op, .int .i64 n, .string nm, .string sb, .slice A args.length cap]] W (fun r w' => (∃ b : Bool, r = .returned (.bool b)) ∧ Only [] W w') from small_any (e := .mk op n nm sb A cap args) (hL.keep o)))
  have CR9 := Lib.hid (fun W (o : Only [] w W) => (show Calls Tryd.prog 9 #[.agg #[.slice A1 vars.length c1, .slice A2 ports.length c2, .bool bag, .slice A3 of.length c3]] W (fun r w' => r = .returned (.bool (nsB vars ports of)) ∧ Only [] W w') from nsright_any (A1 := A1) (A2 := A2) (A3 := A3) (vars := vars) (ports := ports) (of := of) (c1 := c1) (c2 := c2) (bag := bag) (c3 := c3) (hN.keep o)))
  clear hL hN hW h0 h1
  go_enter Tryd.func4, Tryd.ntmps4
  go_wp2_with (fail)
  refine (awake_any (HWD.out.keep HO0.out)).mono ?_
  rintro r w1 ⟨rfl, o1⟩
  have HO1 := Lib.hid (HO0.out.trans o1 (by simp))
  have HX1 := Lib.hid (o1.blk HX0.out (by simp))
  have HN1 := Lib.hid (o1.blk HN0.out (by simp))
  clear o1
  obtain ⟨x0, x1, x2, x3, x4, xl⟩ := HX1.out.facts5
  go_wp2_with (fail)
  refine (CS.out _ HO1.out).mono ?_
  rintro r w2 ⟨⟨b, rfl⟩, o2⟩
  have HO2 := Lib.hid (HO1.out.trans o2 (by simp))
  have HX2 := Lib.hid (o2.blk HX1.out (by simp))
  have HN2 := Lib.hid (o2.blk HN1.out (by simp))
  clear o2
  clear x0 x1 x2 x3 x4 xl
  cases b
  · go_wp2_with (fail)
    refine (awake_any (HWD.out.keep HO2.out)).mono ?_
    rintro r w9 ⟨rfl, o9⟩
    go_wp2_with (fail)
    go_ret
    exact ⟨rfl, HO2.out.trans o9 (by simp)⟩
  · obtain ⟨b0, b1, b2, b3, bl⟩ := HN2.out.facts4
    go_wp2_with (fail)
    refine (CR9.out _ HO2.out).mono ?_
    rintro r w3 ⟨rfl, o3⟩
    have HO3 := Lib.hid (HO2.out.trans o3 (by simp))
    have HX3 := Lib.hid (o3.blk HX2.out (by simp))
    have HN3 := Lib.hid (o3.blk HN2.out (by simp))
    clear o3
    clear b0 b1 b2 b3 bl
    obtain ⟨q, hq⟩ : ∃ q, nsB vars ports of = q := ⟨_, rfl⟩
    rw [hq]
    cases q
    · go_wp2_with (fail)
      refine (awake_any (HWD.out.keep HO3.out)).mono ?_
      rintro r w9 ⟨rfl, o9⟩
      go_wp2_with (fail)
      go_ret
      exact ⟨rfl, HO3.out.trans o9 (by simp)⟩
    · have HOK := Lib.hid (nsB_ok hq).1
      clear hq
      go_wp2_with (fail)
      obtain ⟨wq, hwq⟩ : ∃ wq : World, wq = w3 := ⟨_, rfl⟩
      subst hwq
      have HLW := Lib.hid (HL0.out.mono HO3.out.size)
      have HPL := Lib.hid (show ∀ (i : Nat) e, ports[i]? = some e → ∀ p, A2 = some p → p.block < wq.heap.size from fun i e he p hp => Nat.lt_of_lt_of_le (HP0.out i e he p hp) HO3.out.size)
      have HB6 := Lib.hid HO3.out.size
      obtain ⟨pe, hpe⟩ : ∃ pe, (Ex.mk op n nm sb A cap args).tr.type ⟨vars.map Vr.tr, ports.map Pr.tr, bag, of.map Vr.tr⟩ = pe := ⟨_, rfl⟩
      have CO := Lib.hid (fun W (o : Only [] wq W) => (show Calls Tryd.prog 11 #[.agg #[.slice A1 vars.length c1, .slice A2 ports.length c2, .bool bag, .slice A3 of.length c3]] W (fun r w' => ∃ A1' c1' A3' c3', r = .returned (.agg #[.slice A1' vars.length c1', .slice A2 ports.length c2, .bool bag, .slice A3' of.length c3']) ∧ LiesN w' A1' vars A2 ports A3' of ∧ (∀ p, A1' = some p → W.heap.size ≤ p.block) ∧ (∀ p, A3' = some p → W.heap.size ≤ p.block) ∧ Only [] W w') from of_any (A1 := A1) (A2 := A2) (A3 := A3) (vars := vars) (ports := ports) (of := of) (c1 := c1) (c2 := c2) (bag := bag) (c3 := c3) (by have := HOK.out.l1; omega) (by have := HOK.out.l3; omega) (HNM.out.keep (HO3.out.trans o (by simp)))))
      have CT := Lib.hid (fun A1' c1' A3' c3' W (o : Only [] wq W) (hl : LiesN W A1' vars A2 ports A3' of) => (show Calls Tryd.prog 10 #[.agg #[.int .i64 op, .int .i64 n, .string nm, .string sb, .slice A args.length cap], .agg #[.slice A1' vars.length c1', .slice A2 ports.length c2, .bool bag, .slice A3' of.length c3']] W fun r w' => RK w.heap.size W pe r w' from by rw [← hpe]; exact type_any (B0 := w.heap.size) (c1 := c1') (c2 := c2) (bag := bag) (c3 := c3') (e := .mk op n nm sb A cap args) HOK.out (HO3.out.trans o (by simp)).size (HLE.out.keep (HO3.out.trans o (by simp))) (HWD.out.keep (HO3.out.trans o (by simp))) hl))
      have CR := Lib.hid (fun W (o : Only [] wq W) => (show Calls Tryd.prog 14 #[.agg #[.int .i64 op, .int .i64 n, .string nm, .string sb, .slice A args.length cap], .agg #[.slice A1 vars.length c1, .slice A2 ports.length c2, .bool bag, .slice A3 of.length c3]] W fun r w' => RK w.heap.size W pe r w' from by rw [← hpe]; exact reftype_any (B0 := w.heap.size) (c1 := c1) (c2 := c2) (bag := bag) (c3 := c3) (e := .mk op n nm sb A cap args) HOK.out HL0.out (HO3.out.trans o (by simp)).size (HLE.out.keep (HO3.out.trans o (by simp))) (HNM.out.keep (HO3.out.trans o (by simp)))))
      clear hpe
      refine (wpIn_wide (n := 9)).1 ?_
      refine wpIn_region_relG 9 (RelF wq.heap.size) (V9 wq) (FL w.heap.size wq pe (.agg #[.int .i64 op, .int .i64 n, .string nm, .string sb, .slice A args.length cap]) (.agg #[.slice A1 vars.length c1, .slice A2 ports.length c2, .bool bag, .slice A3 of.length c3]) (OfAt vars ports of A2 c2 bag)) none (fr := ?frt4) (tl := ?tlt4) (.inl rfl) (by kernel_rfl) (by kernel_rfl) (by kernel_rfl) (by kernel_rfl) (by kernel_rfl) (by kernel_rfl) (by decide) ?htlt4 ?hfrt4 (RelF.of (Only.refl _ _)) (fun _ _ _ h k => h.trans k) (fun tb hg => by cases hg) ?stepst4 ?donet4
      case htlt4 => simp only [List.drop_succ_cons, List.drop_zero]; rfl
      case hfrt4 => intro vals; simp only [putAll, dstAt, Act.put, List.getElem?_toArray, List.getElem?_cons_zero, List.getElem?_cons_succ, Option.bind_some, List.setIfInBounds_toArray, List.set_cons_zero, List.set_cons_succ]; rfl
      case stepst4 =>
        refine ⟨?_, ?_, ?_, ?_, ?_, ?_, ?_, ?_, ?_, trivial⟩
        · intro g vals wr hR hV hp K hK
          dsimp only at hK ⊢
          replace hR := hR.only (Nat.le_refl _)
          clear hp
          unfold RunsOp
          obtain ⟨k0, k1, k2, k3, k4, kl⟩ := (hR.blk (Blk.drew HX3.out) (by simp)).facts5
          go_simp
          exact hK.out _ _ ⟨_, g, rfl, RelF.of (Only.refl _ _), hV, rfl, fun _ _ _ _ h => h⟩
        · intro g vals wr hR hV hp K hK
          dsimp only at hK ⊢
          replace hR := hR.only (Nat.le_refl _)
          clear hp
          unfold RunsOp
          obtain ⟨k0, k1, k2, k3, kl⟩ := (hR.blk (Blk.drew HN3.out) (by simp)).facts4
          go_simp
          exact hK.out _ _ ⟨_, g, rfl, RelF.of (Only.refl _ _), hV, rfl, fun _ _ _ _ h => h⟩
        · intro g vals wr hR hV hp K hK
          dsimp only at hK ⊢
          replace hR := hR.only (Nat.le_refl _)
          obtain ⟨p1, -⟩ := hp
          replace p1 := p1 rfl
          replace p1 : vals 1 = .agg #[.slice A1 vars.length c1, .slice A2 ports.length c2, .bool bag, .slice A3 of.length c3] := p1
          rw [p1] at hK ⊢
          clear p1
          unfold RunsOp
          have HV := Lib.hid hV
          clear hV
          go_simp
          refine (CO.out _ ((Only.refl [] _).drew.trans hR (by simp))).mono ?_
          rintro e' w2 ⟨A1', c1', A3', c3', rfl, hl, n1', n3', o2⟩
          exact hK.out _ _ ⟨_, g, rfl, RelF.of o2, HV.out.keep o2, ⟨A1', c1', A3', c3', rfl, hl, fun tb hg => by obtain ⟨h1, c0, c1, h1'⟩ := HV.out tb hg; have h2 := h1'.lt; exact ⟨fun i e he p hp => by have := n1' p hp; omega, fun i e he p hp => by have := n3' p hp; omega⟩⟩, fun _ _ _ _ h => FL.keep o2 (OfAt.keep o2) h⟩
        · intro g vals wr hR hV hp K hK
          dsimp only at hK ⊢
          replace hR := hR.only (Nat.le_refl _)
          obtain ⟨p0, p2, -, -⟩ := hp
          replace p0 := p0 rfl
          replace p2 := p2 rfl
          replace p0 : vals 0 = .agg #[.int .i64 op, .int .i64 n, .string nm, .string sb, .slice A args.length cap] := p0
          obtain ⟨A1', c1', A3', c3', e2, hl2, -⟩ := p2
          rw [p0, e2] at hK ⊢
          clear p0 e2
          unfold RunsOp
          have HV := Lib.hid hV
          have HL2 := Lib.hid hl2
          clear hV hl2
          go_simp
          refine (CT.out _ _ _ _ _ ((Only.refl [] _).drew.trans hR (by simp)) HL2.out).mono ?_
          rintro e' w2 ⟨yk, yA, ycap, yl, rfl, hc, o2⟩
          exact hK.out _ _ ⟨_, g, rfl, RelF.of o2, HV.out.keep o2, ⟨yk, yA, ycap, yl, rfl, hc.low hR.size, fun tb hg hm => by obtain ⟨h1, c0, c1, h1'⟩ := HV.out tb hg; have h2 := h1'.lt; have h3 := HB6.out; rcases hc.off tb hm with h | h <;> omega⟩, fun _ _ _ _ h => FL.keep o2 (OfAt.keep o2) h⟩
        · intro g vals wr hR hV hp K hK
          dsimp only at hK ⊢
          replace hR := hR.only (Nat.le_refl _)
          obtain ⟨p3, -⟩ := hp
          replace p3 := p3 rfl
          obtain ⟨yk, yA, ycap, yl, e3, hc3, hn3⟩ := p3
          rw [e3] at hK ⊢
          clear e3
          unfold RunsOp
          have HC := Lib.hid (And.intro hc3 hn3)
          clear hc3 hn3
          go_simp
          exact hK.out _ _ ⟨_, g, rfl, RelF.of (Only.refl _ _), hV, ⟨yk, yA, ycap, yl, rfl, HC.out.1, HC.out.2⟩, fun _ _ _ _ h => h⟩
        · intro g vals wr hR hV hp K hK
          dsimp only at hK ⊢
          replace hR := hR.only (Nat.le_refl _)
          obtain ⟨p4, -⟩ := hp
          replace p4 := p4 rfl
          obtain ⟨yk, yA, ycap, yl, e4, hc4, hn4⟩ := p4
          rw [e4] at hK ⊢
          clear e4
          unfold RunsOp
          have HC := Lib.hid (And.intro hc4 hn4)
          clear hc4 hn4
          go_simp
          exact hK.out _ _ ⟨_, g, rfl, RelF.of (Only.refl _ _), hV, ⟨yk, yA, ycap, yl, rfl, HC.out.1, HC.out.2⟩, fun _ _ _ _ h => h⟩
        · intro g vals wr hR hV hp K hK
          dsimp only at hK ⊢
          replace hR := hR.only (Nat.le_refl _)
          obtain ⟨p4, -, -⟩ := hp
          replace p4 := p4 rfl
          obtain ⟨yk, yA, ycap, yl, e4, hc4, hn4⟩ := p4
          rw [e4] at hK ⊢
          clear e4
          unfold RunsOp
          clear hc4 hn4
          go_simp
          exact hK.out _ _ ⟨_, g, rfl, RelF.of (Only.refl _ _), hV, rfl, fun _ _ _ _ h => h⟩
        · intro g vals wr hR hV hp K hK
          dsimp only at hK ⊢
          replace hR := hR.only (Nat.le_refl _)
          clear hp
          unfold RunsOp
          have HV := Lib.hid hV
          clear hV
          have ho := (show Only [] wr (wr.alloc (.cells #[.int .i64 0, .slice none 0 0] 34)) from (Only.refl _ _).alloc _)
          have hb := Blk.new wr 34 #[.int .i64 0, .slice none 0 0]
          have HH := Lib.hid (And.intro ho (And.intro hb hR.size))
          clear ho hb
          go_simp
          exact hK.out _ _ ⟨_, some wr.heap.size, rfl, RelF.of HH.out.1, fun tb hg => by injection hg with hg; subst hg; exact ⟨HH.out.2.2, _, _, HH.out.2.1⟩, ⟨_, rfl, rfl⟩, fun j u hj hn h => FL.laid hj (fun e => by subst e; exact Bool.noConfusion ((show _ = true by kernel_rfl).symm.trans hn)) HH.out.1 (OfAt.laid HH.out.1) h⟩
        · intro g vals wr hR hV hp K hK
          dsimp only at hK ⊢
          replace hR := hR.only (Nat.le_refl _)
          obtain ⟨p7, p5, -, -, -, -, -, -, -, -, -, -⟩ := hp
          replace p7 := p7 rfl
          replace p5 := p5 rfl
          obtain ⟨tb, hg, e7⟩ := p7
          obtain ⟨yk, yA, ycap, yl, e5, hc5, hn5⟩ := p5
          rw [e7, e5] at hK ⊢
          clear e7 e5
          unfold RunsOp
          obtain ⟨hvl, c0, c1, hvb⟩ := hV tb hg
          obtain ⟨t0, t1, tl⟩ := hvb.facts2
          have tg0 := hvb.frozen 0
          have tg1 := hvb.frozen 1
          have ho : Only [tb] wr ((wr.setCell ⟨tb, 0, none⟩ (.int .i64 yk)).setCell ⟨tb, 1, none⟩ (.slice yA yl.length ycap)) := ((Only.refl [tb] wr).setCell (.inl (by simp)) _).setCell (.inl (by simp)) _
          have hb := (hvb.set_ 0 (.int .i64 yk)).set_ 1 (.slice yA yl.length ycap)
          have HC := Lib.hid (And.intro hc5 (hn5 tb hg))
          have HH := Lib.hid (And.intro ho (And.intro hb (And.intro hvl hV)))
          clear ho hb hvb hV hc5 hn5 hvl
          go_simp
          exact hK.out _ _ ⟨.int .i64 0, g, rfl, ⟨[tb], fun x hx => by simp at hx; subst hx; exact HH.out.2.2.1, HH.out.1⟩, fun tb' hg' => by obtain rfl : tb = tb' := (by rw [hg] at hg'; injection hg'); exact ⟨HH.out.2.2.1, _, _, HH.out.2.1⟩, ⟨tb, yk, yA, ycap, yl, hg, HH.out.2.1, ⟨HC.out.1.tr, HC.out.1.lies.only HH.out.1 (fun x hx hm => by simp at hm; subst hm; exact HC.out.2 hx), HC.out.1.off⟩, HC.out.2⟩, fun _ _ hj _ h => FL.set hg hj HH.out.1 (OfAt.set HLW.out HPL.out HH.out.2.2.1 hg HH.out.1) h⟩
      case donet4 =>
        intro g vals wd hR hV hF
        have f6 : vals 6 = .int .i64 pe.2 := hF 6 (by decide)
        obtain ⟨tb, hg, f7⟩ := hF 7 (by decide)
        obtain ⟨tb', yk, yA, ycap, yl, hg', hTB, hTK, hnb⟩ := hF 8 (by decide)
        obtain rfl : tb = tb' := (by rw [hg] at hg'; injection hg')
        have HTL := Lib.hid (hV tb hg).1
        replace hR := hR.only (Nat.le_refl _)
        rw [f6, f7]
        clear f6 f7
        have HR := Lib.hid ((Only.refl [] _).drew.trans hR (by simp))
        have HTB := Lib.hid hTB
        have HTK := Lib.hid hTK
        have HNB := Lib.hid hnb
        clear hR hV hF hg hg' hTK hnb hTB
        have HX4 := Lib.hid (HR.out.blk HX3.out (by simp))
        have HN4 := Lib.hid (HR.out.blk HN3.out (by simp))
        have HO4 := Lib.hid (HO3.out.trans HR.out (by simp))
        obtain ⟨x0, x1, x2, x3, x4, xl⟩ := HX4.out.facts5
        obtain ⟨b0, b1, b2, b3, bl⟩ := HN4.out.facts4
        gi_wp2_with (fail)
        go_wp2_with (fail)
        refine (CR.out _ HR.out).mono ?_
        rintro r w5 ⟨zk, zA, zcap, zl, rfl, hz, o5⟩
        have HZT := Lib.hid (And.intro hz.tr (hz.lies.keep ((Only.refl [] w5).alloc (.cells #[.int .i64 zk, .slice zA zl.length zcap] 34))))
        have HOA := Lib.hid (show Only [] w5 (w5.alloc (.cells #[.int .i64 zk, .slice zA zl.length zcap] 34)) from (Only.refl [] w5).alloc _)
        have HYT := Lib.hid (And.intro HTK.out.tr ((HTK.out.lies.keep o5).keep HOA.out))
        have CC := Lib.hid (refsameT (.mk yk yA ycap yl) (.mk zk zA zcap zl) _ HYT.out.2 HZT.out.2)
        rw [HYT.out.1, HZT.out.1, show pe.1.same pe.1 = true from (Tt.same_iff _ _).2 rfl] at CC
        have HO5 := Lib.hid (HO4.out.trans o5 (by simp))
        have HTB5 := Lib.hid (o5.blk HTB.out (by simp))
        obtain ⟨t0, t1, tl⟩ := HTB5.out.facts2
        clear hz o5
        clear x0 x1 x2 x3 x4 xl
        clear b0 b1 b2 b3 bl
        obtain ⟨p2, hp2⟩ : ∃ p2, pe.2 = p2 := ⟨_, rfl⟩
        rw [hp2]
        clear hp2
        go_wp2_with (fail)
        refine CC.out.mono ?_
        rintro r w6 ⟨rfl, o6⟩
        go_wp2_with (fail)
        go_ret
        exact ⟨rfl, (HO5.out.trans HOA.out (by simp)).trans o6 (by simp)⟩
end Go.Proofs.YtjhpckeoackblaaDoor
