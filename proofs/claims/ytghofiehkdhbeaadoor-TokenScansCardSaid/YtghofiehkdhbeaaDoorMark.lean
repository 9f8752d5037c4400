/- The document's mark. -/
import Derived.Test.YtghofiehkdhbeaaDoorPlain
namespace Go.Proofs.YtghofiehkdhbeaaDoor
open Go.RowKit Go.Kx Go.Tok
set_option maxRecDepth 100000

set_option maxHeartbeats 4000000 in
theorem mark_any (s : ByteArray) (hs : s.size ≤ 100000000) (p : Nat) (hp : p < s.size) (w : World) : Calls Tryd.prog 16 #[.string s, .int .i64 p] w fun e w' => e = .returned (.int .i64 (markLen (s.data.toList.drop p) : Nat)) ∧ Only [] w w' := by
  obtain ⟨O, hO⟩ : ∃ O : ByteArray, O = ⟨#[123, 125, 40, 41, 44, 59, 58, 46, 61, 60, 43, 45, 42, 47, 37]⟩ := ⟨_, rfl⟩
  have HOS := Lib.hid (show O.size = 15 by rw [hO]; rfl)
  have HOA := Lib.hid (show ∀ k (h : k < O.size), onesB[k]? = some O[k] from fun k h => by subst hO; exact List.getElem?_eq_getElem (l := onesB) (show k < onesB.length from h))
  have hos : O.size ≤ 15 := by have := HOS.out; omega
  have hdc := drop_cons hp
  by_cases h1 : p + 1 < s.size
  · have d1 : (p : Int) + 1 < (s.size : Int) := by omega
    have hdc2 := drop_cons h1
    rw [hdc2] at hdc
    have hm : markLen (s.data.toList.drop p) = if two s[p] s[p + 1] then 2 else if one s[p] then 1 else 0 := by rw [hdc]; rfl
    have HM := Lib.hid hm
    have e1 : (p : Int) + 1 = ((p + 1 : Nat) : Int) := by omega
    have e2 : ((p : Int) + 1).toNat = p + 1 := by omega
    clear hm hdc hdc2
    by_cases a1 : s[p].toNat = 45
    · have q1 : (((s[p].toNat : Nat) : Int) == 45) = true := by rw [beq_iff_eq]; omega
      by_cases b1 : s[p + 1].toNat = 62
      · have q2 : (((s[p + 1].toNat : Nat) : Int) == 62) = true := by rw [beq_iff_eq]; omega
        have HF := Lib.hid (show markLen (s.data.toList.drop p) = 2 by rw [HM.out, show two s[p] s[p + 1] = true by unfold two; simp [a1, b1]]; rfl)
        rw [HF.out]
        clear a1 b1 e1 e2
        go_enter Tryd.func16, Tryd.ntmps16
        go_wp2_with (fail)
        go_ret
        exact ⟨rfl, Only.refl _ _⟩
      · have q2 : (((s[p + 1].toNat : Nat) : Int) == 62) = false := by rw [beq_eq_false_iff_ne]; omega
        have HV := Lib.hid (show markLen (s.data.toList.drop p) = if one s[p] then 1 else 0 by rw [HM.out, show two s[p] s[p + 1] = false by unfold two; simp [a1, b1]]; rfl)
        clear a1 b1 e1 e2
        go_enter Tryd.func16, Tryd.ntmps16
        go_wp2_with (fail)
        rw [← hO]
        clear hO
        go_loopw [6] (fun i wr => ∃ k : Nat, i = .int .i64 k ∧ k ≤ O.size ∧ Hid ((onesB.take k).contains s[p] = false) ∧ Only [] w wr) (fun i _ => O.size - (intOf i).toNat)
        case atStart => exact ⟨0, rfl, Nat.zero_le _, Lib.hid rfl, Only.refl _ _⟩
        case round =>
          obtain ⟨k, rfl, hk, HN, ho⟩ := hrel
          have HOW := Lib.hid ho
          clear ho
          by_cases hlt : k < O.size
          · have HAT := Lib.hid (HOA.out k hlt)
            by_cases he : s[p].toNat = O[k].toNat
            · have q9 : ((s[p].toNat : Nat) : Int) = ((O[k].toNat : Nat) : Int) := by omega
              have HF := Lib.hid (show one s[p] = true by rw [one_eq, List.contains_iff_mem]; have h1 := HAT.out; have h2 : s[p] = O[k] := UInt8.toNat_inj.1 he; rw [h2]; exact List.mem_of_getElem? h1)
              clear he
              go_wp2_with (fail)
              go_quiet (fail)
              go_wp2_with (fail)
              go_ret
              exact ⟨by rw [HV.out, HF.out]; rfl, by first | exact HOW.out | exact HOW.out.drewN _⟩
            · have q9 : ¬ ((s[p].toNat : Nat) : Int) = ((O[k].toNat : Nat) : Int) := by omega
              have HF := Lib.hid (show (onesB.take (k + 1)).contains s[p] = false by
                rw [List.take_add_one, HAT.out]
                have h1 := HN.out
                have h2 : s[p] ≠ O[k] := fun h => he (by rw [h])
                rw [List.contains_eq_mem, decide_eq_false_iff_not] at h1 ⊢
                intro hm
                rcases List.mem_append.1 hm with hm | hm
                · exact h1 hm
                · simp at hm; exact h2 hm)
              clear he
              go_wp2_with (fail)
              go_quiet (fail)
              go_wp2_with (fail)
              go_roundw
              case rel => exact ⟨k + 1, by go_num, by omega, HF, by first | exact HOW.out | exact HOW.out.drewN _⟩
              case measure => simp [intOf]; omega
          · obtain rfl : k = O.size := by omega
            have HF := Lib.hid (show one s[p] = false by rw [one_eq]; have h1 := HN.out; rw [HOS.out] at h1; exact h1)
            go_wp2_with (fail)
            go_ret
            exact ⟨by rw [HV.out, HF.out]; rfl, HOW.out⟩
    · have q1 : (((s[p].toNat : Nat) : Int) == 45) = false := by rw [beq_eq_false_iff_ne]; omega
      by_cases a2 : s[p].toNat = 60
      · have q3 : (((s[p].toNat : Nat) : Int) == 60) = true := by rw [beq_iff_eq]; omega
        by_cases b1 : s[p + 1].toNat = 61
        · have q2 : (((s[p + 1].toNat : Nat) : Int) == 61) = true := by rw [beq_iff_eq]; omega
          have HF := Lib.hid (show markLen (s.data.toList.drop p) = 2 by rw [HM.out, show two s[p] s[p + 1] = true by unfold two; simp [a2, b1]]; rfl)
          rw [HF.out]
          clear a1 b1 e1 e2 a2
          go_enter Tryd.func16, Tryd.ntmps16
          go_wp2_with (fail)
          go_ret
          exact ⟨rfl, Only.refl _ _⟩
        · have q2 : (((s[p + 1].toNat : Nat) : Int) == 61) = false := by rw [beq_eq_false_iff_ne]; omega
          have HV := Lib.hid (show markLen (s.data.toList.drop p) = if one s[p] then 1 else 0 by rw [HM.out, show two s[p] s[p + 1] = false by unfold two; simp [a2, b1]]; rfl)
          clear a1 b1 e1 e2 a2
          go_enter Tryd.func16, Tryd.ntmps16
          go_wp2_with (fail)
          rw [← hO]
          clear hO
          go_loopw [6] (fun i wr => ∃ k : Nat, i = .int .i64 k ∧ k ≤ O.size ∧ Hid ((onesB.take k).contains s[p] = false) ∧ Only [] w wr) (fun i _ => O.size - (intOf i).toNat)
          case atStart => exact ⟨0, rfl, Nat.zero_le _, Lib.hid rfl, Only.refl _ _⟩
          case round =>
            obtain ⟨k, rfl, hk, HN, ho⟩ := hrel
            have HOW := Lib.hid ho
            clear ho
            by_cases hlt : k < O.size
            · have HAT := Lib.hid (HOA.out k hlt)
              by_cases he : s[p].toNat = O[k].toNat
              · have q9 : ((s[p].toNat : Nat) : Int) = ((O[k].toNat : Nat) : Int) := by omega
                have HF := Lib.hid (show one s[p] = true by rw [one_eq, List.contains_iff_mem]; have h1 := HAT.out; have h2 : s[p] = O[k] := UInt8.toNat_inj.1 he; rw [h2]; exact List.mem_of_getElem? h1)
                clear he
                go_wp2_with (fail)
                go_quiet (fail)
                go_wp2_with (fail)
                go_ret
                exact ⟨by rw [HV.out, HF.out]; rfl, by first | exact HOW.out | exact HOW.out.drewN _⟩
              · have q9 : ¬ ((s[p].toNat : Nat) : Int) = ((O[k].toNat : Nat) : Int) := by omega
                have HF := Lib.hid (show (onesB.take (k + 1)).contains s[p] = false by
                  rw [List.take_add_one, HAT.out]
                  have h1 := HN.out
                  have h2 : s[p] ≠ O[k] := fun h => he (by rw [h])
                  rw [List.contains_eq_mem, decide_eq_false_iff_not] at h1 ⊢
                  intro hm
                  rcases List.mem_append.1 hm with hm | hm
                  · exact h1 hm
                  · simp at hm; exact h2 hm)
                clear he
                go_wp2_with (fail)
                go_quiet (fail)
                go_wp2_with (fail)
                go_roundw
                case rel => exact ⟨k + 1, by go_num, by omega, HF, by first | exact HOW.out | exact HOW.out.drewN _⟩
                case measure => simp [intOf]; omega
            · obtain rfl : k = O.size := by omega
              have HF := Lib.hid (show one s[p] = false by rw [one_eq]; have h1 := HN.out; rw [HOS.out] at h1; exact h1)
              go_wp2_with (fail)
              go_ret
              exact ⟨by rw [HV.out, HF.out]; rfl, HOW.out⟩
      · have q3 : (((s[p].toNat : Nat) : Int) == 60) = false := by rw [beq_eq_false_iff_ne]; omega
        have HV := Lib.hid (show markLen (s.data.toList.drop p) = if one s[p] then 1 else 0 by rw [HM.out, show two s[p] s[p + 1] = false by unfold two; simp [a1, a2]]; rfl)
        clear a1 e1 e2 a2
        go_enter Tryd.func16, Tryd.ntmps16
        go_wp2_with (fail)
        rw [← hO]
        clear hO
        go_loopw [6] (fun i wr => ∃ k : Nat, i = .int .i64 k ∧ k ≤ O.size ∧ Hid ((onesB.take k).contains s[p] = false) ∧ Only [] w wr) (fun i _ => O.size - (intOf i).toNat)
        case atStart => exact ⟨0, rfl, Nat.zero_le _, Lib.hid rfl, Only.refl _ _⟩
        case round =>
          obtain ⟨k, rfl, hk, HN, ho⟩ := hrel
          have HOW := Lib.hid ho
          clear ho
          by_cases hlt : k < O.size
          · have HAT := Lib.hid (HOA.out k hlt)
            by_cases he : s[p].toNat = O[k].toNat
            · have q9 : ((s[p].toNat : Nat) : Int) = ((O[k].toNat : Nat) : Int) := by omega
              have HF := Lib.hid (show one s[p] = true by rw [one_eq, List.contains_iff_mem]; have h1 := HAT.out; have h2 : s[p] = O[k] := UInt8.toNat_inj.1 he; rw [h2]; exact List.mem_of_getElem? h1)
              clear he
              go_wp2_with (fail)
              go_quiet (fail)
              go_wp2_with (fail)
              go_ret
              exact ⟨by rw [HV.out, HF.out]; rfl, by first | exact HOW.out | exact HOW.out.drewN _⟩
            · have q9 : ¬ ((s[p].toNat : Nat) : Int) = ((O[k].toNat : Nat) : Int) := by omega
              have HF := Lib.hid (show (onesB.take (k + 1)).contains s[p] = false by
                rw [List.take_add_one, HAT.out]
                have h1 := HN.out
                have h2 : s[p] ≠ O[k] := fun h => he (by rw [h])
                rw [List.contains_eq_mem, decide_eq_false_iff_not] at h1 ⊢
                intro hm
                rcases List.mem_append.1 hm with hm | hm
                · exact h1 hm
                · simp at hm; exact h2 hm)
              clear he
              go_wp2_with (fail)
              go_quiet (fail)
              go_wp2_with (fail)
              go_roundw
              case rel => exact ⟨k + 1, by go_num, by omega, HF, by first | exact HOW.out | exact HOW.out.drewN _⟩
              case measure => simp [intOf]; omega
          · obtain rfl : k = O.size := by omega
            have HF := Lib.hid (show one s[p] = false by rw [one_eq]; have h1 := HN.out; rw [HOS.out] at h1; exact h1)
            go_wp2_with (fail)
            go_ret
            exact ⟨by rw [HV.out, HF.out]; rfl, HOW.out⟩
  · have d1 : ¬ (p : Int) + 1 < (s.size : Int) := by omega
    have HV := Lib.hid (show markLen (s.data.toList.drop p) = if one s[p] then 1 else 0 by rw [hdc, List.drop_of_length_le (by simp; omega)]; rfl)
    clear hdc
    go_enter Tryd.func16, Tryd.ntmps16
    go_wp2_with (fail)
    rw [← hO]
    clear hO
    go_loopw [6] (fun i wr => ∃ k : Nat, i = .int .i64 k ∧ k ≤ O.size ∧ Hid ((onesB.take k).contains s[p] = false) ∧ Only [] w wr) (fun i _ => O.size - (intOf i).toNat)
    case atStart => exact ⟨0, rfl, Nat.zero_le _, Lib.hid rfl, Only.refl _ _⟩
    case round =>
      obtain ⟨k, rfl, hk, HN, ho⟩ := hrel
      have HOW := Lib.hid ho
      clear ho
      by_cases hlt : k < O.size
      · have HAT := Lib.hid (HOA.out k hlt)
        by_cases he : s[p].toNat = O[k].toNat
        · have q9 : ((s[p].toNat : Nat) : Int) = ((O[k].toNat : Nat) : Int) := by omega
          have HF := Lib.hid (show one s[p] = true by rw [one_eq, List.contains_iff_mem]; have h1 := HAT.out; have h2 : s[p] = O[k] := UInt8.toNat_inj.1 he; rw [h2]; exact List.mem_of_getElem? h1)
          clear he
          go_wp2_with (fail)
          go_quiet (fail)
          go_wp2_with (fail)
          go_ret
          exact ⟨by rw [HV.out, HF.out]; rfl, by first | exact HOW.out | exact HOW.out.drewN _⟩
        · have q9 : ¬ ((s[p].toNat : Nat) : Int) = ((O[k].toNat : Nat) : Int) := by omega
          have HF := Lib.hid (show (onesB.take (k + 1)).contains s[p] = false by
            rw [List.take_add_one, HAT.out]
            have h1 := HN.out
            have h2 : s[p] ≠ O[k] := fun h => he (by rw [h])
            rw [List.contains_eq_mem, decide_eq_false_iff_not] at h1 ⊢
            intro hm
            rcases List.mem_append.1 hm with hm | hm
            · exact h1 hm
            · simp at hm; exact h2 hm)
          clear he
          go_wp2_with (fail)
          go_quiet (fail)
          go_wp2_with (fail)
          go_roundw
          case rel => exact ⟨k + 1, by go_num, by omega, HF, by first | exact HOW.out | exact HOW.out.drewN _⟩
          case measure => simp [intOf]; omega
      · obtain rfl : k = O.size := by omega
        have HF := Lib.hid (show one s[p] = false by rw [one_eq]; have h1 := HN.out; rw [HOS.out] at h1; exact h1)
        go_wp2_with (fail)
        go_ret
        exact ⟨by rw [HV.out, HF.out]; rfl, HOW.out⟩
end Go.Proofs.YtghofiehkdhbeaaDoor
