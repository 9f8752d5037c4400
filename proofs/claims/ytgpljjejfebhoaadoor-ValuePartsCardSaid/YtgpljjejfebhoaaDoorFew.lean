/- few. -/
import Derived.Test.YtgpljjejfebhoaaDoorRoom
namespace Go.Proofs.YtgpljjejfebhoaaDoor
open Go.RowKit Go.Kx Go.Val
set_option maxRecDepth 100000
def fewB (l : List Vx) : Bool := l.all fun e => decide (0 ≤ e.tr.room 8 400)
set_option maxHeartbeats 4000000 in
theorem few_any {A : Option Addr} {cap : Nat} {l : List Vx} {w : World} (hR : RowLV w A l) (hl : l.length ≤ 1000) :
    Calls Tryd.prog 19 #[.slice A l.length cap] w fun r w' => r = .returned (.bool (fewB l)) ∧ Only [] w w' := by
  have HR := Lib.hid hR
  obtain ⟨n, hn⟩ : ∃ n, l.length = n := ⟨_, rfl⟩
  have HN := Lib.hid hn
  rw [hn] at hl ⊢
  clear hR hn
  go_enter Tryd.func19, Tryd.ntmps19
  go_wp2_with (fail)
  go_loopw [3] (fun i wr => ∃ k : Nat, i = .int .i64 k ∧ k ≤ n ∧ Hid ((l.take k).all (fun e => decide (0 ≤ e.tr.room 8 400)) = true) ∧ Hid (Only [] w wr)) (fun i _ => n - (intOf i).toNat)
  case atStart => exact ⟨0, rfl, Nat.zero_le _, Lib.hid (by simp), Lib.hid (Only.refl _ _)⟩
  case round =>
    obtain ⟨k, rfl, hk, HP, HOr⟩ := hrel
    by_cases hlt : k < n
    · obtain ⟨e, he⟩ : ∃ e, l[k]? = some e := ⟨_, List.getElem?_eq_getElem (by rw [HN.out]; exact hlt)⟩
      have hmem : e ∈ l := List.mem_of_getElem? he
      have hcall := smallV e wr ((HR.out.sub e hmem).keep HOr.out) 8 400 (by omega) (by omega) (by omega)
      have HTK := Lib.hid (show (l.take (k + 1)).all (fun e => decide (0 ≤ e.tr.room 8 400)) = ((l.take k).all (fun e => decide (0 ≤ e.tr.room 8 400)) && decide (0 ≤ e.tr.room 8 400)) from by rw [List.take_add_one, he, List.all_append]; simp)
      have HBAD := Lib.hid (show decide (0 ≤ e.tr.room 8 400) = false → fewB l = false from fun h => by unfold fewB; rw [List.all_eq_false]; exact ⟨e, hmem, by rw [h]; decide⟩)
      have hrow := (HR.out.row k _ he).only HOr.out (by simp)
      obtain ⟨y, hy⟩ : ∃ y, e.tr.room 8 400 = y := ⟨_, rfl⟩
      rw [hy] at hcall HTK HBAD
      obtain ⟨xk, xn, xs, xA, xcap, xl⟩ := e
      obtain ⟨bb, o, rfl, hbb, c0, c1, c2, c3⟩ := hrow.cells
      have HCA := Lib.hid (show Calls Tryd.prog 37 #[.agg #[.int .i64 xk, .int .i64 xn, .string xs, .slice xA xl.length xcap], .int .i64 8, .int .i64 400] wr fun r w'' => r = .returned (.int .i64 y) ∧ Only [] wr w'' from hcall)
      have ik0 : (0 : Int) ≤ (k : Int) := by omega
      have ik1 : (k : Int) < (n : Int) := by omega
      clear he hmem hcall hy hrow
      go_wp2_with (fail)
      refine HCA.out.mono ?_
      rintro r w3 ⟨rfl, o3⟩
      have HO3 := Lib.hid (HOr.out.trans o3 (by simp))
      clear o3 c0 c1 c2 c3
      by_cases hy0 : y < 0
      · have e1 : decide (y < 0) = true := decide_eq_true hy0
        have e2 : decide (0 ≤ y) = false := decide_eq_false (by omega)
        go_wp2_with (fail)
        go_ret
        exact ⟨by rw [HBAD.out e2]; rfl, HO3.out⟩
      · have e1 : decide (y < 0) = false := decide_eq_false hy0
        have HE2 := Lib.hid (show decide (0 ≤ y) = true from decide_eq_true (by omega))
        go_wp2_with (fail)
        go_roundw
        case rel => exact ⟨k + 1, by go_num, by omega, Lib.hid (by rw [HTK.out, HP.out, HE2.out]; rfl), HO3⟩
        case measure => simp [intOf]; omega
    · have hke : k = n := by omega
      have iz : ¬ (n : Int) < (n : Int) := by omega
      have HE := Lib.hid (show fewB l = true by
        have h := HP.out
        rw [hke, List.take_of_length_le (by rw [HN.out]; exact Nat.le_refl _)] at h
        exact h)
      rw [hke]
      clear hke hlt hk
      go_wp2_with (fail)
      go_ret
      exact ⟨by rw [HE.out]; rfl, HOr.out⟩
end Go.Proofs.YtgpljjejfebhoaaDoor
