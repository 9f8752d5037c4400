/- Reserved, Name: the program's and the document's. -/
import Derived.Test.YtfnacnlaphpflaaDoorStr
namespace Go.Proofs.YtfnacnlaphpflaaDoor
open Go.RowKit Go.Kx
set_option maxRecDepth 100000

set_option maxHeartbeats 1000000 in
theorem reserved_any {s : ByteArray} {w : World} (hW : WordsIs w) :
    Calls Tryd.prog 15 #[.string s] w fun e w' => e = .returned (.bool (resB s.toList)) ∧ Only [] w w' := by
  obtain ⟨t, fr, hg⟩ := hW
  have hu : Tryd.prog.underlying 60 = some (.array 33 9) := by kernel_rfl
  have hix := Lib.hid word_index
  go_enter Tryd.func15, Tryd.ntmps15
  go_wp2_with (refine wpList_load_row rfl 60 _ rfl 0 rfl t wordsV fr _ hg hu rfl (by kernel_rfl) ?_)
  go_loop [6] (fun i => ∃ k : Nat, i = .int .i64 k ∧ k ≤ 33 ∧ resTo k s.toList = false) (fun i => 33 - (intOf i).toNat)
  case atStart => exact ⟨0, rfl, by omega, rfl⟩
  case round =>
    obtain ⟨k, rfl, hk, hr⟩ := hrel
    have HR := Lib.hid hr
    clear hr
    by_cases hlt : k < 33
    · have hi : ∀ w, (Instr.index 60 (.agg wordsV) (.int .i64 (k : Int))).run Tryd.prog w = .ok (.string ⟨(wordAt k).toArray⟩) w := hix.out k hlt
      have HS := Lib.hid (resTo_succ hlt s.toList)
      cases hc : wordAt k == s.toList with
      | true =>
        go_wp2_with (fail)
        go_ret
        have hres : resB s.toList = true := by
          have h1 : resTo (k + 1) s.toList = true := by rw [HS.out, hc, Bool.or_true]
          unfold resTo at h1
          unfold resB
          rw [List.contains_iff_mem] at h1 ⊢
          exact List.mem_of_mem_take h1
        exact ⟨by rw [hres]; rfl, Only.refl _ _⟩
      | false =>
        go_wp2_with (fail)
        go_round
        case rel => exact ⟨k + 1, by go_num, by omega, by rw [HS.out, HR.out, hc]; rfl⟩
        case measure => simp [intOf]; omega
    · obtain rfl : k = 33 := by omega
      go_wp2_with (fail)
      go_ret
      exact ⟨by rw [← resTo_all, HR.out]; rfl, Only.refl _ _⟩
set_option maxHeartbeats 4000000 in
theorem rreserved_any {s : ByteArray} {w : World} :
    Calls Tryd.prog 16 #[.string s] w fun e w' => e = .returned (.bool (resB s.toList)) ∧ Only [] w w' := by
  go_enter Tryd.func16, Tryd.ntmps16
  go_wp2_with (fail)
  all_goals
    go_ret
    refine ⟨?_, Only.refl _ _⟩
    simp_all [resB, wordsL]

def letB (c : UInt8) : Bool := 97 ≤ c && c ≤ 122
def digB (c : UInt8) : Bool := 48 ≤ c && c ≤ 57
def nmAt (s : ByteArray) (k : Nat) : Bool := match s[k]? with | some c => letB c || (k != 0 && digB c) | none => true
/-- a name -/
def nameB (s : ByteArray) : Bool := decide (1 ≤ s.size) && decide (s.size ≤ 16) && (List.range s.size).all (nmAt s)
theorem nm_to {s : ByteArray} {k : Nat} (h : (List.range k).all (nmAt s) = true) (hk : nmAt s k = true) : (List.range (k + 1)).all (nmAt s) = true := by
  rw [List.range_succ, List.all_append, h]
  simpa using hk
theorem nm_bad {s : ByteArray} {k : Nat} (hl : k < s.size) (hk : nmAt s k = false) : (List.range s.size).all (nmAt s) = false := by
  rw [List.all_eq_false]
  exact ⟨k, List.mem_range.2 hl, by rw [hk]; decide⟩
theorem nmAt_of {s : ByteArray} {k : Nat} (h : k < s.size) : nmAt s k = (letB s[k] || (k != 0 && digB s[k])) := by
  unfold nmAt
  rw [getElem?_pos s k h]
theorem letB_iff (c : UInt8) : letB c = (decide (97 ≤ (c.toNat : Int)) && decide ((c.toNat : Int) ≤ 122)) := by
  unfold letB
  congr 1 <;> (rw [decide_eq_decide, UInt8.le_iff_toNat_le]; simp <;> omega)
theorem digB_iff (c : UInt8) : digB c = (decide (48 ≤ (c.toNat : Int)) && decide ((c.toNat : Int) ≤ 57)) := by
  unfold digB
  congr 1 <;> (rw [decide_eq_decide, UInt8.le_iff_toNat_le]; simp <;> omega)
set_option maxHeartbeats 4000000 in
theorem vname_any {s : ByteArray} {w : World} (hs : s.size ≤ 9223372036854775807) :
    Calls Tryd.prog 36 #[.string s] w fun e w' => e = .returned (.bool (nameB s)) ∧ Only [] w w' := by
  by_cases h1 : 1 ≤ s.size
  · by_cases h2 : s.size ≤ 16
    · have hz1 := decide_eq_true h1
      have hz2 := decide_eq_true h2
      have HB := Lib.hid (show nameB s = (List.range s.size).all (nmAt s) from by unfold nameB; rw [hz1, hz2]; rfl)
      clear hz1 hz2
      have d1 : decide ((s.size : Int) < 1) = false := by simp; omega
      have d2 : decide ((16 : Int) < (s.size : Int)) = false := by simp; omega
      have d3 : ¬ s.size = 0 := by omega
      go_enter Tryd.func36, Tryd.ntmps36
      go_wp2_with (fail)
      go_loop [16] (fun i => ∃ k : Nat, i = .int .i64 k ∧ k ≤ s.size ∧ (List.range k).all (nmAt s) = true) (fun i => s.size - (intOf i).toNat)
      case atStart => exact ⟨0, rfl, by omega, rfl⟩
      case round =>
        obtain ⟨k, rfl, hk, hr⟩ := hrel
        have HR := Lib.hid hr
        clear hr
        by_cases hlt : k < s.size
        · have HN := Lib.hid (nmAt_of hlt)
          have hn := letB_iff s[k]
          have hd := digB_iff s[k]
          have hcase : ((s[k].toNat : Int) < 48) ∨ (48 ≤ (s[k].toNat : Int) ∧ (s[k].toNat : Int) ≤ 57) ∨ (58 ≤ (s[k].toNat : Int) ∧ (s[k].toNat : Int) ≤ 96) ∨ (97 ≤ (s[k].toNat : Int) ∧ (s[k].toNat : Int) ≤ 122) ∨ 123 ≤ (s[k].toNat : Int) := by omega
          rcases hcase with hc | hc | hc | hc | hc
          · have q1 : decide (97 ≤ (s[k].toNat : Int)) = false := by simp; omega
            have q2 : decide ((s[k].toNat : Int) ≤ 122) = true := by simp; omega
            have q3 : decide (48 ≤ (s[k].toNat : Int)) = false := by simp; omega
            have q4 : decide ((s[k].toNat : Int) ≤ 57) = true := by simp; omega
            rw [q1, q2] at hn
            rw [q3, q4] at hd
            have HL := Lib.hid hn
            have HD := Lib.hid hd
            clear hn hd hc
            cases hz : k == 0 with
            | true =>
              have hz2 : ((k : Int) == 0) = true := by have e0 : k = 0 := (by simpa using hz); rw [e0]; rfl
              have HZ := Lib.hid hz
              clear hz
              have HV := Lib.hid (show nmAt s k = false from by rw [HN.out, HL.out, HD.out]; have := HZ.out; simp [bne, this])
              clear HN HL HD
              go_wp2_with (fail)
              go_ret
              exact ⟨by rw [HB.out, nm_bad hlt HV.out]; rfl, Only.refl _ _⟩
            | false =>
              have hz2 : ((k : Int) == 0) = false := by have e0 : ¬ k = 0 := (by simpa using hz); rw [beq_eq_false_iff_ne]; omega
              have HZ := Lib.hid hz
              clear hz
              have HV := Lib.hid (show nmAt s k = false from by rw [HN.out, HL.out, HD.out]; have := HZ.out; simp [bne, this])
              clear HN HL HD
              go_wp2_with (fail)
              go_ret
              exact ⟨by rw [HB.out, nm_bad hlt HV.out]; rfl, Only.refl _ _⟩
          · have q1 : decide (97 ≤ (s[k].toNat : Int)) = false := by simp; omega
            have q2 : decide ((s[k].toNat : Int) ≤ 122) = true := by simp; omega
            have q3 : decide (48 ≤ (s[k].toNat : Int)) = true := by simp; omega
            have q4 : decide ((s[k].toNat : Int) ≤ 57) = true := by simp; omega
            rw [q1, q2] at hn
            rw [q3, q4] at hd
            have HL := Lib.hid hn
            have HD := Lib.hid hd
            clear hn hd hc
            cases hz : k == 0 with
            | true =>
              have hz2 : ((k : Int) == 0) = true := by have e0 : k = 0 := (by simpa using hz); rw [e0]; rfl
              have HZ := Lib.hid hz
              clear hz
              have HV := Lib.hid (show nmAt s k = false from by rw [HN.out, HL.out, HD.out]; have := HZ.out; simp [bne, this])
              clear HN HL HD
              go_wp2_with (fail)
              go_ret
              exact ⟨by rw [HB.out, nm_bad hlt HV.out]; rfl, Only.refl _ _⟩
            | false =>
              have hz2 : ((k : Int) == 0) = false := by have e0 : ¬ k = 0 := (by simpa using hz); rw [beq_eq_false_iff_ne]; omega
              have HZ := Lib.hid hz
              clear hz
              have HV := Lib.hid (show nmAt s k = true from by rw [HN.out, HL.out, HD.out]; have := HZ.out; simp [bne, this])
              clear HN HL HD
              go_wp2_with (fail)
              go_round
              case rel => exact ⟨k + 1, by go_num, by omega, nm_to HR.out HV.out⟩
              case measure => simp [intOf]; omega
          · have q1 : decide (97 ≤ (s[k].toNat : Int)) = false := by simp; omega
            have q2 : decide ((s[k].toNat : Int) ≤ 122) = true := by simp; omega
            have q3 : decide (48 ≤ (s[k].toNat : Int)) = true := by simp; omega
            have q4 : decide ((s[k].toNat : Int) ≤ 57) = false := by simp; omega
            rw [q1, q2] at hn
            rw [q3, q4] at hd
            have HL := Lib.hid hn
            have HD := Lib.hid hd
            clear hn hd hc
            cases hz : k == 0 with
            | true =>
              have hz2 : ((k : Int) == 0) = true := by have e0 : k = 0 := (by simpa using hz); rw [e0]; rfl
              have HZ := Lib.hid hz
              clear hz
              have HV := Lib.hid (show nmAt s k = false from by rw [HN.out, HL.out, HD.out]; have := HZ.out; simp [bne, this])
              clear HN HL HD
              go_wp2_with (fail)
              go_ret
              exact ⟨by rw [HB.out, nm_bad hlt HV.out]; rfl, Only.refl _ _⟩
            | false =>
              have hz2 : ((k : Int) == 0) = false := by have e0 : ¬ k = 0 := (by simpa using hz); rw [beq_eq_false_iff_ne]; omega
              have HZ := Lib.hid hz
              clear hz
              have HV := Lib.hid (show nmAt s k = false from by rw [HN.out, HL.out, HD.out]; have := HZ.out; simp [bne, this])
              clear HN HL HD
              go_wp2_with (fail)
              go_ret
              exact ⟨by rw [HB.out, nm_bad hlt HV.out]; rfl, Only.refl _ _⟩
          · have q1 : decide (97 ≤ (s[k].toNat : Int)) = true := by simp; omega
            have q2 : decide ((s[k].toNat : Int) ≤ 122) = true := by simp; omega
            have q3 : decide (48 ≤ (s[k].toNat : Int)) = true := by simp; omega
            have q4 : decide ((s[k].toNat : Int) ≤ 57) = false := by simp; omega
            rw [q1, q2] at hn
            rw [q3, q4] at hd
            have HL := Lib.hid hn
            have HD := Lib.hid hd
            clear hn hd hc
            cases hz : k == 0 with
            | true =>
              have hz2 : ((k : Int) == 0) = true := by have e0 : k = 0 := (by simpa using hz); rw [e0]; rfl
              have HZ := Lib.hid hz
              clear hz
              have HV := Lib.hid (show nmAt s k = true from by rw [HN.out, HL.out, HD.out]; have := HZ.out; simp [bne, this])
              clear HN HL HD
              go_wp2_with (fail)
              go_round
              case rel => exact ⟨k + 1, by go_num, by omega, nm_to HR.out HV.out⟩
              case measure => simp [intOf]; omega
            | false =>
              have hz2 : ((k : Int) == 0) = false := by have e0 : ¬ k = 0 := (by simpa using hz); rw [beq_eq_false_iff_ne]; omega
              have HZ := Lib.hid hz
              clear hz
              have HV := Lib.hid (show nmAt s k = true from by rw [HN.out, HL.out, HD.out]; have := HZ.out; simp [bne, this])
              clear HN HL HD
              go_wp2_with (fail)
              go_round
              case rel => exact ⟨k + 1, by go_num, by omega, nm_to HR.out HV.out⟩
              case measure => simp [intOf]; omega
          · have q1 : decide (97 ≤ (s[k].toNat : Int)) = true := by simp; omega
            have q2 : decide ((s[k].toNat : Int) ≤ 122) = false := by simp; omega
            have q3 : decide (48 ≤ (s[k].toNat : Int)) = true := by simp; omega
            have q4 : decide ((s[k].toNat : Int) ≤ 57) = false := by simp; omega
            rw [q1, q2] at hn
            rw [q3, q4] at hd
            have HL := Lib.hid hn
            have HD := Lib.hid hd
            clear hn hd hc
            cases hz : k == 0 with
            | true =>
              have hz2 : ((k : Int) == 0) = true := by have e0 : k = 0 := (by simpa using hz); rw [e0]; rfl
              have HZ := Lib.hid hz
              clear hz
              have HV := Lib.hid (show nmAt s k = false from by rw [HN.out, HL.out, HD.out]; have := HZ.out; simp [bne, this])
              clear HN HL HD
              go_wp2_with (fail)
              go_ret
              exact ⟨by rw [HB.out, nm_bad hlt HV.out]; rfl, Only.refl _ _⟩
            | false =>
              have hz2 : ((k : Int) == 0) = false := by have e0 : ¬ k = 0 := (by simpa using hz); rw [beq_eq_false_iff_ne]; omega
              have HZ := Lib.hid hz
              clear hz
              have HV := Lib.hid (show nmAt s k = false from by rw [HN.out, HL.out, HD.out]; have := HZ.out; simp [bne, this])
              clear HN HL HD
              go_wp2_with (fail)
              go_ret
              exact ⟨by rw [HB.out, nm_bad hlt HV.out]; rfl, Only.refl _ _⟩
        · obtain rfl : k = s.size := by omega
          go_wp2_with (fail)
          go_ret
          exact ⟨by rw [HB.out, HR.out]; rfl, Only.refl _ _⟩
    · have hb : nameB s = false := by unfold nameB; simp; omega
      have d1 : decide ((s.size : Int) < 1) = false := by simp; omega
      have d2 : decide ((16 : Int) < (s.size : Int)) = true := by simp; omega
      have d3 : ¬ s.size = 0 := by omega
      rw [hb]
      clear h1 h2
      go_enter Tryd.func36, Tryd.ntmps36
      go_wp2_with (fail)
      go_ret
      exact ⟨rfl, Only.refl _ _⟩
  · have hb : nameB s = false := by unfold nameB; simp; omega
    have d1 : decide ((s.size : Int) < 1) = true := by simp; omega
    have d3 : s.size = 0 := by omega
    rw [hb]
    clear h1
    go_enter Tryd.func36, Tryd.ntmps36
    go_wp2_with (fail)
    go_ret
    exact ⟨rfl, Only.refl _ _⟩
set_option maxHeartbeats 4000000 in
theorem rname_any {s : ByteArray} {w : World} (hs : s.size ≤ 9223372036854775807) :
    Calls Tryd.prog 37 #[.string s] w fun e w' => e = .returned (.bool (nameB s)) ∧ Only [] w w' := by
  by_cases h1 : 1 ≤ s.size
  · by_cases h2 : s.size ≤ 16
    · have hz1 := decide_eq_true h1
      have hz2 := decide_eq_true h2
      have HB := Lib.hid (show nameB s = (List.range s.size).all (nmAt s) from by unfold nameB; rw [hz1, hz2]; rfl)
      clear hz1 hz2
      have d1 : decide ((s.size : Int) < 1) = false := by simp; omega
      have d2 : decide ((16 : Int) < (s.size : Int)) = false := by simp; omega
      have d3 : ¬ s.size = 0 := by omega
      go_enter Tryd.func37, Tryd.ntmps37
      go_wp2_with (fail)
      go_loop [3] (fun i => ∃ k : Nat, i = .int .i64 k ∧ k ≤ s.size ∧ (List.range k).all (nmAt s) = true) (fun i => s.size - (intOf i).toNat)
      case atStart => exact ⟨0, rfl, by omega, rfl⟩
      case round =>
        obtain ⟨k, rfl, hk, hr⟩ := hrel
        have HR := Lib.hid hr
        clear hr
        by_cases hlt : k < s.size
        · have HN := Lib.hid (nmAt_of hlt)
          have hn := letB_iff s[k]
          have hd := digB_iff s[k]
          have hcase : ((s[k].toNat : Int) < 48) ∨ (48 ≤ (s[k].toNat : Int) ∧ (s[k].toNat : Int) ≤ 57) ∨ (58 ≤ (s[k].toNat : Int) ∧ (s[k].toNat : Int) ≤ 96) ∨ (97 ≤ (s[k].toNat : Int) ∧ (s[k].toNat : Int) ≤ 122) ∨ 123 ≤ (s[k].toNat : Int) := by omega
          rcases hcase with hc | hc | hc | hc | hc
          · have q1 : decide (97 ≤ (s[k].toNat : Int)) = false := by simp; omega
            have q2 : decide ((s[k].toNat : Int) ≤ 122) = true := by simp; omega
            have q3 : decide (48 ≤ (s[k].toNat : Int)) = false := by simp; omega
            have q4 : decide ((s[k].toNat : Int) ≤ 57) = true := by simp; omega
            rw [q1, q2] at hn
            rw [q3, q4] at hd
            have HL := Lib.hid hn
            have HD := Lib.hid hd
            clear hn hd hc
            cases hz : k == 0 with
            | true =>
              have hz2 : ((k : Int) == 0) = true := by have e0 : k = 0 := (by simpa using hz); rw [e0]; rfl
              have HZ := Lib.hid hz
              clear hz
              have HV := Lib.hid (show nmAt s k = false from by rw [HN.out, HL.out, HD.out]; have := HZ.out; simp [bne, this])
              clear HN HL HD
              go_wp2_with (fail)
              go_ret
              exact ⟨by rw [HB.out, nm_bad hlt HV.out]; rfl, Only.refl _ _⟩
            | false =>
              have hz2 : ((k : Int) == 0) = false := by have e0 : ¬ k = 0 := (by simpa using hz); rw [beq_eq_false_iff_ne]; omega
              have HZ := Lib.hid hz
              clear hz
              have HV := Lib.hid (show nmAt s k = false from by rw [HN.out, HL.out, HD.out]; have := HZ.out; simp [bne, this])
              clear HN HL HD
              go_wp2_with (fail)
              go_ret
              exact ⟨by rw [HB.out, nm_bad hlt HV.out]; rfl, Only.refl _ _⟩
          · have q1 : decide (97 ≤ (s[k].toNat : Int)) = false := by simp; omega
            have q2 : decide ((s[k].toNat : Int) ≤ 122) = true := by simp; omega
            have q3 : decide (48 ≤ (s[k].toNat : Int)) = true := by simp; omega
            have q4 : decide ((s[k].toNat : Int) ≤ 57) = true := by simp; omega
            rw [q1, q2] at hn
            rw [q3, q4] at hd
            have HL := Lib.hid hn
            have HD := Lib.hid hd
            clear hn hd hc
            cases hz : k == 0 with
            | true =>
              have hz2 : ((k : Int) == 0) = true := by have e0 : k = 0 := (by simpa using hz); rw [e0]; rfl
              have HZ := Lib.hid hz
              clear hz
              have HV := Lib.hid (show nmAt s k = false from by rw [HN.out, HL.out, HD.out]; have := HZ.out; simp [bne, this])
              clear HN HL HD
              go_wp2_with (fail)
              go_ret
              exact ⟨by rw [HB.out, nm_bad hlt HV.out]; rfl, Only.refl _ _⟩
            | false =>
              have hz2 : ((k : Int) == 0) = false := by have e0 : ¬ k = 0 := (by simpa using hz); rw [beq_eq_false_iff_ne]; omega
              have HZ := Lib.hid hz
              clear hz
              have HV := Lib.hid (show nmAt s k = true from by rw [HN.out, HL.out, HD.out]; have := HZ.out; simp [bne, this])
              clear HN HL HD
              go_wp2_with (fail)
              go_round
              case rel => exact ⟨k + 1, by go_num, by omega, nm_to HR.out HV.out⟩
              case measure => simp [intOf]; omega
          · have q1 : decide (97 ≤ (s[k].toNat : Int)) = false := by simp; omega
            have q2 : decide ((s[k].toNat : Int) ≤ 122) = true := by simp; omega
            have q3 : decide (48 ≤ (s[k].toNat : Int)) = true := by simp; omega
            have q4 : decide ((s[k].toNat : Int) ≤ 57) = false := by simp; omega
            rw [q1, q2] at hn
            rw [q3, q4] at hd
            have HL := Lib.hid hn
            have HD := Lib.hid hd
            clear hn hd hc
            cases hz : k == 0 with
            | true =>
              have hz2 : ((k : Int) == 0) = true := by have e0 : k = 0 := (by simpa using hz); rw [e0]; rfl
              have HZ := Lib.hid hz
              clear hz
              have HV := Lib.hid (show nmAt s k = false from by rw [HN.out, HL.out, HD.out]; have := HZ.out; simp [bne, this])
              clear HN HL HD
              go_wp2_with (fail)
              go_ret
              exact ⟨by rw [HB.out, nm_bad hlt HV.out]; rfl, Only.refl _ _⟩
            | false =>
              have hz2 : ((k : Int) == 0) = false := by have e0 : ¬ k = 0 := (by simpa using hz); rw [beq_eq_false_iff_ne]; omega
              have HZ := Lib.hid hz
              clear hz
              have HV := Lib.hid (show nmAt s k = false from by rw [HN.out, HL.out, HD.out]; have := HZ.out; simp [bne, this])
              clear HN HL HD
              go_wp2_with (fail)
              go_ret
              exact ⟨by rw [HB.out, nm_bad hlt HV.out]; rfl, Only.refl _ _⟩
          · have q1 : decide (97 ≤ (s[k].toNat : Int)) = true := by simp; omega
            have q2 : decide ((s[k].toNat : Int) ≤ 122) = true := by simp; omega
            have q3 : decide (48 ≤ (s[k].toNat : Int)) = true := by simp; omega
            have q4 : decide ((s[k].toNat : Int) ≤ 57) = false := by simp; omega
            rw [q1, q2] at hn
            rw [q3, q4] at hd
            have HL := Lib.hid hn
            have HD := Lib.hid hd
            clear hn hd hc
            cases hz : k == 0 with
            | true =>
              have hz2 : ((k : Int) == 0) = true := by have e0 : k = 0 := (by simpa using hz); rw [e0]; rfl
              have HZ := Lib.hid hz
              clear hz
              have HV := Lib.hid (show nmAt s k = true from by rw [HN.out, HL.out, HD.out]; have := HZ.out; simp [bne, this])
              clear HN HL HD
              go_wp2_with (fail)
              go_round
              case rel => exact ⟨k + 1, by go_num, by omega, nm_to HR.out HV.out⟩
              case measure => simp [intOf]; omega
            | false =>
              have hz2 : ((k : Int) == 0) = false := by have e0 : ¬ k = 0 := (by simpa using hz); rw [beq_eq_false_iff_ne]; omega
              have HZ := Lib.hid hz
              clear hz
              have HV := Lib.hid (show nmAt s k = true from by rw [HN.out, HL.out, HD.out]; have := HZ.out; simp [bne, this])
              clear HN HL HD
              go_wp2_with (fail)
              go_round
              case rel => exact ⟨k + 1, by go_num, by omega, nm_to HR.out HV.out⟩
              case measure => simp [intOf]; omega
          · have q1 : decide (97 ≤ (s[k].toNat : Int)) = true := by simp; omega
            have q2 : decide ((s[k].toNat : Int) ≤ 122) = false := by simp; omega
            have q3 : decide (48 ≤ (s[k].toNat : Int)) = true := by simp; omega
            have q4 : decide ((s[k].toNat : Int) ≤ 57) = false := by simp; omega
            rw [q1, q2] at hn
            rw [q3, q4] at hd
            have HL := Lib.hid hn
            have HD := Lib.hid hd
            clear hn hd hc
            cases hz : k == 0 with
            | true =>
              have hz2 : ((k : Int) == 0) = true := by have e0 : k = 0 := (by simpa using hz); rw [e0]; rfl
              have HZ := Lib.hid hz
              clear hz
              have HV := Lib.hid (show nmAt s k = false from by rw [HN.out, HL.out, HD.out]; have := HZ.out; simp [bne, this])
              clear HN HL HD
              go_wp2_with (fail)
              go_ret
              exact ⟨by rw [HB.out, nm_bad hlt HV.out]; rfl, Only.refl _ _⟩
            | false =>
              have hz2 : ((k : Int) == 0) = false := by have e0 : ¬ k = 0 := (by simpa using hz); rw [beq_eq_false_iff_ne]; omega
              have HZ := Lib.hid hz
              clear hz
              have HV := Lib.hid (show nmAt s k = false from by rw [HN.out, HL.out, HD.out]; have := HZ.out; simp [bne, this])
              clear HN HL HD
              go_wp2_with (fail)
              go_ret
              exact ⟨by rw [HB.out, nm_bad hlt HV.out]; rfl, Only.refl _ _⟩
        · obtain rfl : k = s.size := by omega
          go_wp2_with (fail)
          go_ret
          exact ⟨by rw [HB.out, HR.out]; rfl, Only.refl _ _⟩
    · have hb : nameB s = false := by unfold nameB; simp; omega
      have d1 : decide ((s.size : Int) < 1) = false := by simp; omega
      have d2 : decide ((16 : Int) < (s.size : Int)) = true := by simp; omega
      have d3 : ¬ s.size = 0 := by omega
      rw [hb]
      clear h1 h2
      go_enter Tryd.func37, Tryd.ntmps37
      go_wp2_with (fail)
      go_ret
      exact ⟨rfl, Only.refl _ _⟩
  · have hb : nameB s = false := by unfold nameB; simp; omega
    have d1 : decide ((s.size : Int) < 1) = true := by simp; omega
    have d3 : s.size = 0 := by omega
    rw [hb]
    clear h1
    go_enter Tryd.func37, Tryd.ntmps37
    go_wp2_with (fail)
    go_ret
    exact ⟨rfl, Only.refl _ _⟩
def nmB (s : ByteArray) : Bool := nameB s && !resB s.toList
theorem name_any {s : ByteArray} {w : World} (hs : s.size ≤ 9223372036854775807) (hW : WordsIs w) :
    Calls Tryd.prog 17 #[.string s] w fun e w' => e = .returned (.bool (nmB s)) ∧ Only [] w w' := by
  have HW := Lib.hid hW
  clear hW
  unfold nmB
  cases hn : nameB s with
  | true =>
    go_enter Tryd.func17, Tryd.ntmps17
    go_wp2_with (fail)
    refine (vname_any hs).mono ?_
    rw [hn]
    rintro e w1 ⟨rfl, o1⟩
    have HW1 := Lib.hid (HW.out.keep o1)
    have HO1 := Lib.hid o1
    clear o1
    go_wp2_with (fail)
    refine (reserved_any HW1.out).mono ?_
    rintro e w2 ⟨rfl, o2⟩
    have HO2 := Lib.hid (HO1.out.trans o2 (by simp))
    clear o2
    go_wp2_with (fail)
    go_ret
    exact ⟨by simp, HO2.out⟩
  | false =>
    go_enter Tryd.func17, Tryd.ntmps17
    go_wp2_with (fail)
    refine (vname_any hs).mono ?_
    rw [hn]
    rintro e w1 ⟨rfl, o1⟩
    have HO1 := Lib.hid o1
    clear o1
    go_wp2_with (fail)
    go_ret
    exact ⟨rfl, HO1.out⟩
theorem refname_any {s : ByteArray} {w : World} (hs : s.size ≤ 9223372036854775807) :
    Calls Tryd.prog 18 #[.string s] w fun e w' => e = .returned (.bool (nmB s)) ∧ Only [] w w' := by
  unfold nmB
  cases hn : nameB s with
  | true =>
    go_enter Tryd.func18, Tryd.ntmps18
    go_wp2_with (fail)
    refine (rname_any hs).mono ?_
    rw [hn]
    rintro e w1 ⟨rfl, o1⟩
    have HO1 := Lib.hid o1
    clear o1
    go_wp2_with (fail)
    refine (rreserved_any).mono ?_
    rintro e w2 ⟨rfl, o2⟩
    have HO2 := Lib.hid (HO1.out.trans o2 (by simp))
    clear o2
    go_wp2_with (fail)
    go_ret
    exact ⟨by simp, HO2.out⟩
  | false =>
    go_enter Tryd.func18, Tryd.ntmps18
    go_wp2_with (fail)
    refine (rname_any hs).mono ?_
    rw [hn]
    rintro e w1 ⟨rfl, o1⟩
    have HO1 := Lib.hid o1
    clear o1
    go_wp2_with (fail)
    go_ret
    exact ⟨rfl, HO1.out⟩
end Go.Proofs.YtfnacnlaphpflaaDoor
