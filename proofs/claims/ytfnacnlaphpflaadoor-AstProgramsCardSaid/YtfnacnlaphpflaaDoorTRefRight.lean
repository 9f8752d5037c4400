/- The document's Right, TypeRight. -/
import Derived.Test.YtfnacnlaphpflaaDoorTRight
namespace Go.Proofs.YtfnacnlaphpflaaDoor
open Go.RowKit Go.Kx Go.Val
set_option maxRecDepth 100000
set_option maxHeartbeats 4000000 in
theorem refrightT : ∀ (e : Tx) (w : World), LiesT w e → ∀ r : Nat, r ≤ 3 → Calls Tryd.prog 97 #[e.val, .int .i64 (r : Nat)] w fun x w' => x = .returned (.bool (e.tr.ok r)) ∧ Only [] w w' := by
  refine Tx.ind (fun e ih => ?_)
  intro w hL r hr
  obtain ⟨k, A, cap, l⟩ := e
  have HH := Lib.hid hL.inv.1
  have HLN := Lib.hid hL.inv.2.1
  have HOKX := Lib.hid (okTx k A cap l r)
  have q0 : Blk (w.alloc (.cells #[.int .i64 k, .slice A l.length cap] 93)) w.heap.size 93 #[.int .i64 k, .slice A l.length cap] := Blk.new w _ _
  have o0 : Only [] w (w.alloc (.cells #[.int .i64 k, .slice A l.length cap] 93)) := (Only.refl _ _).alloc _
  have HO := Lib.hid o0
  have HR := Lib.hid (hL.rowL.keep o0)
  have HQ0 := Lib.hid q0
  have HI := Lib.hid ih
  show Calls Tryd.prog 97 #[.agg #[.int .i64 k, .slice A l.length cap], .int .i64 (r : Nat)] w _
  clear hL ih q0 o0
  by_cases h012 : k = 0 ∨ k = 1 ∨ k = 2
  · have HE := Lib.hid (show (okK k l.length r && l.all fun x => x.tr.ok (r - 1)) = (l.length == 0) by
      unfold okK
      rw [if_pos h012]
      by_cases h0 : l.length = 0
      · rw [List.length_eq_zero_iff.1 h0]; rfl
      · rw [beq_eq_false_iff_ne.2 h0]; rfl)
    have HLB := Lib.hid (show ((l.length : Int) == 0) = (l.length == 0) by
      by_cases h0 : l.length = 0
      · rw [h0]; rfl
      · rw [beq_eq_false_iff_ne.2 h0]; exact beq_eq_false_iff_ne.2 (by omega))
    rcases h012 with rfl | rfl | rfl
    all_goals
      go_enter Tryd.func97, Tryd.ntmps97
      go_wp2_with (fail)
      go_ret
      exact ⟨by rw [HOKX.out, HE.out]; first | rfl | (rw [← HLB.out]; rfl), HO.out⟩
  · by_cases h3 : k = 3
    · subst h3
      by_cases hl1 : 1 ≤ l.length
      · by_cases hl4 : l.length ≤ 4
        · by_cases hr0 : r = 0
          · subst hr0
            have HE := Lib.hid (show (okK 3 l.length 0 && l.all fun x => x.tr.ok (0 - 1)) = false by simp [okK])
            go_enter Tryd.func97, Tryd.ntmps97
            go_wp2_with (fail)
            go_ret
            exact ⟨by rw [HOKX.out, HE.out]; rfl, HO.out⟩
          · have d1 : decide ((l.length : Int) < 1) = false := decide_eq_false (by omega)
            have d2 : decide ((4 : Int) < (l.length : Int)) = false := decide_eq_false (by omega)
            have d3 : ¬ l.length = 0 := by omega
            have d4 : ((r : Int) == 0) = false := beq_eq_false_iff_ne.2 (by omega)
            have d5 : ¬ r = 0 := hr0
            have HE := Lib.hid (show (okK 3 l.length r && l.all fun x => x.tr.ok (r - 1)) = l.all fun x => x.tr.ok (r - 1) by
              have h0r : 0 < r := by omega
              simp [okK, h0r, hl1, hl4])
            have hr1 : (1 : Int) ≤ (r : Int) := by omega
            have hr3 : (r : Int) ≤ 3 := by omega
            clear hr0
            go_enter Tryd.func97, Tryd.ntmps97
            go_wp2_with (fail)
            go_loopw [5] (fun i wr => ∃ k : Nat, i = .int .i64 k ∧ k ≤ l.length ∧ Hid ((l.take k).all (fun x => x.tr.ok (r - 1)) = true) ∧ Hid (Only [] (w.alloc (.cells #[.int .i64 3, .slice A l.length cap] 93)) wr)) (fun i _ => l.length - (intOf i).toNat)
            case atStart => exact ⟨0, rfl, Nat.zero_le _, Lib.hid (by simp), Lib.hid (Only.refl _ _)⟩
            case round =>
              obtain ⟨k, rfl, hk, HP, HOr⟩ := hrel
              obtain ⟨b0, b1, bl⟩ := (HOr.out.blk HQ0.out (by simp)).facts2
              by_cases hlt : k < l.length
              · obtain ⟨e, he⟩ : ∃ e, l[k]? = some e := ⟨_, List.getElem?_eq_getElem hlt⟩
                have hmem : e ∈ l := List.mem_of_getElem? he
                have HLe := Lib.hid ((HR.out.sub e hmem).keep HOr.out)
                have HCA := Lib.hid (HI.out e (by simpa [Tx.l] using hmem) _ HLe.out (r - 1) (by omega))
                rw [show ((r - 1 : Nat) : Int) = (r : Int) - 1 by omega] at HCA
                have HTK := Lib.hid (show (l.take (k + 1)).all (fun x => x.tr.ok (r - 1)) = ((l.take k).all (fun x => x.tr.ok (r - 1)) && e.tr.ok (r - 1)) from by rw [List.take_add_one, he, List.all_append]; simp)
                have HBAD := Lib.hid (show e.tr.ok (r - 1) = false → l.all (fun x => x.tr.ok (r - 1)) = false from fun h => by rw [List.all_eq_false]; exact ⟨e, hmem, by rw [h]; decide⟩)
                obtain ⟨pe, hpe⟩ : ∃ pe, e.tr.ok (r - 1) = pe := ⟨_, rfl⟩
                rw [hpe] at HCA HTK HBAD
                clear hpe
                obtain ⟨xk, xA, xcap, xl⟩ := e
                obtain ⟨b, o, rfl, hb, c0, c1⟩ := ((HR.out.row k _ he).only HOr.out (by simp)).cells
                have HCB := Lib.hid (show Calls Tryd.prog 97 #[.agg #[.int .i64 xk, .slice xA xl.length xcap], .int .i64 ((r : Int) - 1)] wr _ from HCA.out)
                have ik0 : (0 : Int) ≤ (k : Int) := by omega
                have ik1 : (k : Int) < (l.length : Int) := by omega
                clear he hmem HCA
                go_wp2_with (fail)
                refine HCB.out.mono ?_
                clear HCB
                rintro x w3 ⟨rfl, o3⟩
                have HO3 := Lib.hid (HOr.out.trans o3 (by simp))
                clear o3 c0 c1 b0 b1 bl
                cases pe with
                | true =>
                  go_wp2_with (fail)
                  go_roundw
                  case rel => exact ⟨k + 1, by go_num, by omega, Lib.hid (by rw [HTK.out, HP.out]; rfl), HO3⟩
                  case measure => simp [intOf]; omega
                | false =>
                  go_wp2_with (fail)
                  go_ret
                  exact ⟨by rw [HOKX.out, HE.out, show l.all (fun x => x.tr.ok (r - 1)) = false from HBAD.out (by first | rfl | trivial)]; rfl, HO.out.trans HO3.out (by simp)⟩
              · obtain rfl : k = l.length := by omega
                have ik1 : ¬ (l.length : Int) < (l.length : Int) := by omega
                go_wp2_with (fail)
                go_ret
                exact ⟨by have := HP.out; rw [List.take_length] at this; rw [HOKX.out, HE.out, this]; rfl, HO.out.trans HOr.out (by simp)⟩
        · have d1 : decide ((l.length : Int) < 1) = false := decide_eq_false (by omega)
          have d2 : decide ((4 : Int) < (l.length : Int)) = true := decide_eq_true (by omega)
          have d3 : ¬ l.length = 0 := by omega
          have d4 : 4 < l.length := by omega
          have HE := Lib.hid (show (okK 3 l.length r && l.all fun x => x.tr.ok (r - 1)) = false by simp [okK, hl4])
          by_cases hr0 : r = 0
          · subst hr0
            go_enter Tryd.func97, Tryd.ntmps97
            go_wp2_with (fail)
            go_ret
            exact ⟨by rw [HOKX.out, HE.out]; rfl, HO.out⟩
          · have d6 : ((r : Int) == 0) = false := beq_eq_false_iff_ne.2 (by omega)
            go_enter Tryd.func97, Tryd.ntmps97
            go_wp2_with (fail)
            go_ret
            exact ⟨by rw [HOKX.out, HE.out]; rfl, HO.out⟩
      · have d1 : decide ((l.length : Int) < 1) = true := decide_eq_true (by omega)
        have d2 : l.length = 0 := by omega
        have HE := Lib.hid (show (okK 3 l.length r && l.all fun x => x.tr.ok (r - 1)) = false by simp [okK, d2])
        clear d2
        by_cases hr0 : r = 0
        · subst hr0
          go_enter Tryd.func97, Tryd.ntmps97
          go_wp2_with (fail)
          go_ret
          exact ⟨by rw [HOKX.out, HE.out]; rfl, HO.out⟩
        · have d6 : ((r : Int) == 0) = false := beq_eq_false_iff_ne.2 (by omega)
          go_enter Tryd.func97, Tryd.ntmps97
          go_wp2_with (fail)
          go_ret
          exact ⟨by rw [HOKX.out, HE.out]; rfl, HO.out⟩
    · have e3 : (k != 3) = true := by simpa using h3
      have e4 : (k == 3) = false := beq_eq_false_iff_ne.2 h3
      have HE := Lib.hid (show (okK k l.length r && l.all fun x => x.tr.ok (r - 1)) = false by unfold okK; rw [if_neg h012, if_neg h3]; rfl)
      by_cases hk0 : 0 ≤ k
      · have e0 : decide (0 ≤ k) = true := decide_eq_true hk0
        have e1 : decide (k ≤ 2) = false := decide_eq_false (by omega)
        clear h012
        go_enter Tryd.func97, Tryd.ntmps97
        go_wp2_with (fail)
        go_ret
        exact ⟨by rw [HOKX.out, HE.out]; rfl, HO.out⟩
      · have e0 : decide (0 ≤ k) = false := decide_eq_false hk0
        clear h012
        go_enter Tryd.func97, Tryd.ntmps97
        go_wp2_with (fail)
        go_ret
        exact ⟨by rw [HOKX.out, HE.out]; rfl, HO.out⟩
end Go.Proofs.YtfnacnlaphpflaaDoor
