/- Small: kind, ports, sets. -/
import Derived.Test.YtfnacnlaphpflaaDoorPro
import Derived.Test.YtfnacnlaphpflaaDoorNsts
namespace Go.Proofs.YtfnacnlaphpflaaDoor
open Go.RowKit Go.Kx
open Go.Val (Tt)
set_option maxRecDepth 100000
/-- room from r0 down to r: what was gone through is small -/
structure Rm (r0 r : Int) (l : List Ex) : Prop where
  up : r ≤ r0
  low : -1 ≤ r
  sm : 0 ≤ r → r + l.length ≤ r0 ∧ ∀ e ∈ l, e.sm = true
theorem Rm.nil {r : Int} (h : -1 ≤ r) : Rm r r [] := ⟨Int.le_refl _, h, fun _ => ⟨by simp, by simp⟩⟩
theorem Rm.app {r0 r1 r2 : Int} {l m : List Ex} (h : Rm r0 r1 l) (k : Rm r1 r2 m) : Rm r0 r2 (l ++ m) :=
  ⟨Int.le_trans k.up h.up, k.low, fun h2 => by
    have h1 := h.sm (Int.le_trans h2 k.up)
    have k1 := k.sm h2
    refine ⟨by rw [List.length_append]; omega, fun e he => ?_⟩
    rcases List.mem_append.1 he with x | x
    · exact h1.2 e x
    · exact k1.2 e x⟩
theorem Rm.stop {r0 r : Int} {l : List Ex} (h : Rm r0 r l) (hr : ¬ 0 ≤ r) (m : List Ex) : Rm r0 r m := ⟨h.up, h.low, fun x => absurd x hr⟩
theorem Rm.to {r0 r : Int} {l m : List Ex} (h : Rm r0 r l) (e : l = m) : Rm r0 r m := e ▸ h
theorem all_pos (t : Tr) : 1 ≤ t.all.length := by cases t; rw [Tr.all, List.length_cons]; omega
theorem Rm.expr {e : Ex} {r : Int} (h : 0 ≤ r) : Rm r (e.tr.room 40 r) [e] := by
  have h1 := room_range e.tr 40 r h
  refine ⟨h1.2, h1.1, fun h2 => ⟨?_, fun x hx => ?_⟩⟩
  · have := (room_small e.tr 40 r h2).2
    have := all_pos e.tr
    simp only [List.length_cons, List.length_nil]
    omega
  · simp at hx
    subst hx
    exact room_sm _ 40 r h2
set_option maxHeartbeats 4000000 in
theorem kind_any : ∀ (e : Tx) (w : World), LiesT w e → ∀ (deep : Nat) (room : Int), deep ≤ 1000 → 0 ≤ room → room ≤ 1000000 →
    Calls Tryd.prog 56 #[e.val, .int .i64 deep, .int .i64 room] w fun r w' => ∃ z : Int, r = .returned (.int .i64 z) ∧ Rm room z [] ∧ Only [] w w' := by
  refine Tx.ind (fun e ih => ?_)
  intro w hL deep room hd hr0 hr1
  obtain ⟨tk, A, cap, l⟩ := e
  have HR := Lib.hid hL.rowL
  have HI := Lib.hid ih
  have HB := Lib.hid (Blk.new w 93 #[.int .i64 tk, .slice A l.length cap])
  have HO := Lib.hid (show Only [] w (w.alloc (.cells #[.int .i64 tk, .slice A l.length cap] 93)) from (Only.refl _ _).alloc _)
  obtain ⟨b0, b1, bl⟩ := HB.out.facts2
  clear hL ih
  have HM := Lib.hid (show Rm room (-1) [] from ⟨by omega, by omega, fun h => absurd h (by omega)⟩)
  show Calls Tryd.prog 56 #[.agg #[.int .i64 tk, .slice A l.length cap], .int .i64 deep, .int .i64 room] w _
  rcases Nat.eq_zero_or_pos deep with rfl | hdp
  · go_enter Tryd.func56, Tryd.ntmps56
    go_wp2_with (fail)
    go_ret
    exact ⟨_, rfl, HM.out, HO.out⟩
  · have d1 : ((deep : Int) == 0) = false := by rw [beq_eq_false_iff_ne]; omega
    have d2 : (deep == 0) = false := by simp; omega
    have d3 : decide (deep = 0) = false := by simp; omega
    by_cases c1 : room < 1
    · have e1 : decide (room < 1) = true := decide_eq_true c1
      go_enter Tryd.func56, Tryd.ntmps56
      go_wp2_with (fail)
      go_ret
      exact ⟨_, rfl, HM.out, HO.out⟩
    · have e1 : decide (room < 1) = false := decide_eq_false c1
      by_cases c2 : 20 < l.length
      · have e2 : decide (20 < l.length) = true := decide_eq_true c2
        have e2' : decide ((l.length : Int) > 20) = true := decide_eq_true (by omega)
        go_enter Tryd.func56, Tryd.ntmps56
        go_wp2_with (fail)
        go_ret
        exact ⟨_, rfl, HM.out, HO.out⟩
      · have e2 : decide (20 < l.length) = false := decide_eq_false c2
        have q1 : ((l.length : Nat) : Int) ≤ 20 := by omega
        go_enter Tryd.func56, Tryd.ntmps56
        go_wp2_with (fail)
        obtain ⟨w1, hw1⟩ : ∃ W : World, w.alloc (.cells #[.int .i64 tk, .slice A l.length cap] 93) = W := ⟨_, rfl⟩
        rw [hw1] at HB HO ⊢
        clear hw1
        have HL := Lib.hid (And.intro (And.intro hd hr0) (And.intro hr1 hdp))
        have hd1 : (1 : Int) ≤ (deep : Int) := by omega
        have hd2 : (deep : Int) ≤ 1000 := by omega
        have HS := Lib.hid (show Rm room (room - 1) [] from ⟨by omega, by omega, fun _ => ⟨by simp; omega, by simp⟩⟩)
        have hrm : -1 ≤ room - 1 ∧ room - 1 ≤ 1000000 := by omega
        clear d1 d2 d3 e1 e2 c1 c2 hdp b0 b1 bl
        go_loopw [2, 7] (fun x i wr => ∃ (k : Nat) (z : Int), i = .int .i64 k ∧ x = .int .i64 z ∧ k ≤ l.length ∧ -1 ≤ z ∧ z ≤ 1000000 ∧ Hid (Rm room z []) ∧ Hid (Only [] w1 wr)) (fun _ i _ => l.length - (intOf i).toNat)
        case atStart => exact ⟨0, _, rfl, rfl, Nat.zero_le _, hrm.1, hrm.2, HS, Lib.hid (Only.refl _ _)⟩
        case round =>
          obtain ⟨k, z, rfl, rfl, hk, hz1, hz2, HRM, HOr⟩ := hrel
          obtain ⟨b0, b1, bl⟩ := (HOr.out.blk HB.out (by simp)).facts2
          by_cases hlt : k < l.length
          · have hki : (k : Int) < (l.length : Int) := by omega
            by_cases hz0 : 0 ≤ z
            · obtain ⟨e, he⟩ : ∃ e, l[k]? = some e := ⟨_, List.getElem?_eq_getElem hlt⟩
              have hmem : e ∈ l := List.mem_of_getElem? he
              have ow := HO.out.trans HOr.out (by simp)
              have HLe := Lib.hid ((HR.out.sub e hmem).keep ow)
              have hcall := HI.out e (by simpa [Tx.l] using hmem)
              have hrow := (HR.out.row k _ he).only ow (by simp)
              obtain ⟨xk, xA, xcap, xl⟩ := e
              obtain ⟨b, o, rfl, hb, c0, c1⟩ := hrow.cells
              have HCA := Lib.hid (show ∀ (deep : Nat) (room : Int), deep ≤ 1000 → 0 ≤ room → room ≤ 1000000 → Calls Tryd.prog 56 #[.agg #[.int .i64 xk, .slice xA xl.length xcap], .int .i64 deep, .int .i64 room] wr fun r w' => ∃ z : Int, r = .returned (.int .i64 z) ∧ Rm room z [] ∧ Only [] wr w' from hcall wr HLe.out)
              have hdm : ((deep - 1 : Nat) : Int) = (deep : Int) - 1 := by omega
              have HCB := Lib.hid (show Calls Tryd.prog 56 #[.agg #[.int .i64 xk, .slice xA xl.length xcap], .int .i64 ((deep : Int) - 1), .int .i64 z] wr fun r w' => ∃ z' : Int, r = .returned (.int .i64 z') ∧ Rm z z' [] ∧ Only [] wr w' from by have h := HCA.out (deep - 1) z (by omega) hz0 hz2; rw [hdm] at h; exact h)
              have ik0 : (0 : Int) ≤ (k : Int) := by omega
              have dz : decide (0 ≤ z) = true := decide_eq_true hz0
              clear he hmem hcall hrow ow HCA hdm
              go_wp2_with (fail)
              refine HCB.out.mono ?_
              rintro r w3 ⟨z', rfl, hm, o3⟩
              have HM3 := Lib.hid (HRM.out.app hm)
              have HZ := Lib.hid (And.intro hm.low hm.up)
              have HO3 := Lib.hid (HOr.out.trans o3 (by simp))
              clear hm o3 c0 c1 hb b0 b1 bl dz
              go_wp2_with (fail)
              go_roundw
              case rel => exact ⟨k + 1, z', by go_num, rfl, by omega, HZ.out.1, by have := HZ.out.2; omega, HM3, HO3⟩
              case measure => simp [intOf] <;> omega
            · have dz : decide (0 ≤ z) = false := decide_eq_false hz0
              go_wp2_with (fail)
              go_ret
              exact ⟨z, rfl, HRM.out, HO.out.trans HOr.out (by simp)⟩
          · obtain rfl : k = l.length := by omega
            have iz : ¬ (l.length : Int) < (l.length : Int) := by omega
            go_wp2_with (fail)
            go_ret
            exact ⟨z, rfl, HRM.out, HO.out.trans HOr.out (by simp)⟩
set_option maxHeartbeats 4000000 in
theorem ports_any {A : Option Addr} {cap : Nat} {l : List Po} {room : Int} {w : World} (hR : RowX Po.cs 3 Po.Li w A l) (hr0 : -1 ≤ room) (hr1 : room ≤ 1000) :
    Calls Tryd.prog 42 #[.slice A l.length cap, .int .i64 room] w fun r w' => ∃ z : Int, r = .returned (.int .i64 z) ∧ Rm room z [] ∧ Only [] w w' := by
  have hlen := hR.len
  have HR := Lib.hid hR
  have HR0 := Lib.hid hr0
  clear hR
  go_enter Tryd.func42, Tryd.ntmps42
  go_wp2_with (fail)
  go_loopw [1, 5] (fun x i wr => ∃ (k : Nat) (z : Int), i = .int .i64 k ∧ x = .int .i64 z ∧ k ≤ l.length ∧ -1 ≤ z ∧ z ≤ 1000 ∧ Hid (Rm room z []) ∧ Hid (Only [] w wr)) (fun _ i _ => l.length - (intOf i).toNat)
  case atStart => exact ⟨0, _, rfl, rfl, Nat.zero_le _, hr0, hr1, Lib.hid (by exact Rm.nil hr0), Lib.hid (Only.refl _ _)⟩
  case round =>
    obtain ⟨k, z, rfl, rfl, hk, hz1, hz2, HRM, HOr⟩ := hrel
    by_cases hlt : k < l.length
    · have hki : (k : Int) < (l.length : Int) := by omega
      by_cases hz0 : 0 ≤ z
      · obtain ⟨e, he⟩ : ∃ e, l[k]? = some e := ⟨_, List.getElem?_eq_getElem hlt⟩
        have hmem : e ∈ l := List.mem_of_getElem? he
        have hsub := Po.Li.keep _ _ _ (HR.out.sub e hmem) HOr.out
        have hrow := (HR.out.row k _ he).keep HOr.out
        have HTK := 0
        obtain ⟨xn, xtk, xtA, xtc, xtl⟩ := e
        obtain ⟨b, o, rfl, hb, c0, c1, c2⟩ := Po.at_cells hrow
        have HCB := Lib.hid (show Calls Tryd.prog 56 #[.agg #[.int .i64 xtk, .slice xtA xtl.length xtc], .int .i64 10, .int .i64 z] wr fun r w' => ∃ z' : Int, r = .returned (.int .i64 z') ∧ Rm z z' [] ∧ Only [] wr w' from kind_any (.mk xtk xtA xtc xtl) wr hsub.2 10 z (by omega) hz0 (by omega))
        have ik0 : (0 : Int) ≤ (k : Int) := by omega
        have dz : decide (0 ≤ z) = true := decide_eq_true hz0
        clear he hmem hsub hrow
        go_wp2_with (fail)
        refine HCB.out.mono ?_
        rintro r w3 ⟨z', rfl, hm, o3⟩
        have HM3 := Lib.hid (HRM.out.app hm)
        have HZ := Lib.hid (And.intro hm.low hm.up)
        have HO3 := Lib.hid (HOr.out.trans o3 (by simp))
        clear hm o3 c0 c1 c2 hb dz
        go_wp2_with (fail)
        go_roundw
        case rel => exact ⟨k + 1, z', by go_num, rfl, by omega, HZ.out.1, by have := HZ.out.2; omega, HM3, HO3⟩
        case measure => simp [intOf] <;> omega
      · have dz : decide (0 ≤ z) = false := decide_eq_false hz0
        go_wp2_with (fail)
        go_ret
        exact ⟨z, rfl, HRM.out.stop (by omega) _, HOr.out⟩
    · obtain rfl : k = l.length := by omega
      have iz : ¬ (l.length : Int) < (l.length : Int) := by omega
      go_wp2_with (fail)
      go_ret
      exact ⟨z, rfl, by have h := HRM.out; exact h, HOr.out⟩
set_option maxHeartbeats 4000000 in
theorem sets_any {A : Option Addr} {cap : Nat} {l : List Se} {room : Int} {w : World} (hR : RowX Se.cs 6 Se.Li w A l) (hr0 : -1 ≤ room) (hr1 : room ≤ 1000) :
    Calls Tryd.prog 43 #[.slice A l.length cap, .int .i64 room] w fun r w' => ∃ z : Int, r = .returned (.int .i64 z) ∧ Rm room z (l.map Se.e_) ∧ Only [] w w' := by
  have hlen := hR.len
  have HR := Lib.hid hR
  have HR0 := Lib.hid hr0
  clear hR
  go_enter Tryd.func43, Tryd.ntmps43
  go_wp2_with (fail)
  go_loopw [1, 5] (fun x i wr => ∃ (k : Nat) (z : Int), i = .int .i64 k ∧ x = .int .i64 z ∧ k ≤ l.length ∧ -1 ≤ z ∧ z ≤ 1000 ∧ Hid (Rm room z ((l.take k).map Se.e_)) ∧ Hid (Only [] w wr)) (fun _ i _ => l.length - (intOf i).toNat)
  case atStart => exact ⟨0, _, rfl, rfl, Nat.zero_le _, hr0, hr1, Lib.hid (by rw [List.take_zero]; exact Rm.nil hr0), Lib.hid (Only.refl _ _)⟩
  case round =>
    obtain ⟨k, z, rfl, rfl, hk, hz1, hz2, HRM, HOr⟩ := hrel
    by_cases hlt : k < l.length
    · have hki : (k : Int) < (l.length : Int) := by omega
      by_cases hz0 : 0 ≤ z
      · obtain ⟨e, he⟩ : ∃ e, l[k]? = some e := ⟨_, List.getElem?_eq_getElem hlt⟩
        have hmem : e ∈ l := List.mem_of_getElem? he
        have hsub := Se.Li.keep _ _ _ (HR.out.sub e hmem) HOr.out
        have hrow := (HR.out.row k _ he).keep HOr.out
        have HTK := Lib.hid (show (l.take (k + 1)).map Se.e_ = (l.take k).map Se.e_ ++ [e.e_] from by rw [List.take_add_one, he, List.map_append]; rfl)
        obtain ⟨xn, xeo, xen, xes, xeu, xeA, xec, xel⟩ := e
        obtain ⟨b, o, rfl, hb, c0, c1, c2, c3, c4, c5⟩ := Se.at_cells hrow
        have HCB := Lib.hid (show Calls Tryd.prog 11 #[.agg #[.int .i64 xeo, .int .i64 xen, .string xes, .string xeu, .slice xeA xel.length xec], .int .i64 40, .int .i64 z] wr fun r w' => ∃ z' : Int, r = .returned (.int .i64 z') ∧ Rm z z' [.mk xeo xen xes xeu xeA xec xel] ∧ Only [] wr w' from (expr_any (.mk xeo xen xes xeu xeA xec xel) wr hsub.2 40 z (by omega) hz0 (by omega)).mono (by rintro r w' ⟨rfl, o⟩; exact ⟨_, rfl, Rm.expr hz0, o⟩))
        have ik0 : (0 : Int) ≤ (k : Int) := by omega
        have dz : decide (0 ≤ z) = true := decide_eq_true hz0
        clear he hmem hsub hrow
        go_wp2_with (fail)
        refine HCB.out.mono ?_
        rintro r w3 ⟨z', rfl, hm, o3⟩
        have HM3 := Lib.hid ((HRM.out.app hm).to HTK.out.symm)
        have HZ := Lib.hid (And.intro hm.low hm.up)
        have HO3 := Lib.hid (HOr.out.trans o3 (by simp))
        clear hm o3 c0 c1 c2 c3 c4 c5 hb dz
        go_wp2_with (fail)
        go_roundw
        case rel => exact ⟨k + 1, z', by go_num, rfl, by omega, HZ.out.1, by have := HZ.out.2; omega, HM3, HO3⟩
        case measure => simp [intOf] <;> omega
      · have dz : decide (0 ≤ z) = false := decide_eq_false hz0
        go_wp2_with (fail)
        go_ret
        exact ⟨z, rfl, HRM.out.stop (by omega) _, HOr.out⟩
    · obtain rfl : k = l.length := by omega
      have iz : ¬ (l.length : Int) < (l.length : Int) := by omega
      go_wp2_with (fail)
      go_ret
      exact ⟨z, rfl, by have h := HRM.out; rw [List.take_length] at h; exact h, HOr.out⟩
end Go.Proofs.YtfnacnlaphpflaaDoor
