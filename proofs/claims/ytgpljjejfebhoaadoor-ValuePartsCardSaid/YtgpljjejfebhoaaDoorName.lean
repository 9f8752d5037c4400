/- Name: the program's and the document's. -/
import Derived.Test.YtgpljjejfebhoaaDoorTree
namespace Go.Proofs.YtgpljjejfebhoaaDoor
open Go.RowKit Go.Kx Go.Val
set_option maxRecDepth 100000
def nmAtA (s : ByteArray) (k : Nat) : Bool := match s[k]? with | some c => letB c || (k != 0 && digB c) | none => true
/-- a name -/
def nameA (s : ByteArray) : Bool := decide (1 ≤ s.size) && decide (s.size ≤ 16) && (List.range s.size).all (nmAtA s)
theorem nm_to {s : ByteArray} {k : Nat} (h : (List.range k).all (nmAtA s) = true) (hk : nmAtA s k = true) : (List.range (k + 1)).all (nmAtA s) = true := by
  rw [List.range_succ, List.all_append, h]
  simpa using hk
theorem nm_bad {s : ByteArray} {k : Nat} (hl : k < s.size) (hk : nmAtA s k = false) : (List.range s.size).all (nmAtA s) = false := by
  rw [List.all_eq_false]
  exact ⟨k, List.mem_range.2 hl, by rw [hk]; decide⟩
theorem nmAtA_of {s : ByteArray} {k : Nat} (h : k < s.size) : nmAtA s k = (letB s[k] || (k != 0 && digB s[k])) := by
  unfold nmAtA
  rw [getElem?_pos s k h]
theorem letB_iff (c : UInt8) : letB c = (decide (97 ≤ (c.toNat : Int)) && decide ((c.toNat : Int) ≤ 122)) := by
  unfold letB
  congr 1 <;> (rw [decide_eq_decide, UInt8.le_iff_toNat_le]; simp <;> omega)
theorem digB_iff (c : UInt8) : digB c = (decide (48 ≤ (c.toNat : Int)) && decide ((c.toNat : Int) ≤ 57)) := by
  unfold digB
  congr 1 <;> (rw [decide_eq_decide, UInt8.le_iff_toNat_le]; simp <;> omega)
set_option maxHeartbeats 4000000 in
theorem vname_any {s : ByteArray} {w : World} (hs : s.size ≤ 9223372036854775807) :
    Calls Tryd.prog 10 #[.string s] w fun e w' => e = .returned (.bool (nameA s)) ∧ Only [] w w' := by
  by_cases h1 : 1 ≤ s.size
  · by_cases h2 : s.size ≤ 16
    · have hz1 := decide_eq_true h1
      have hz2 := decide_eq_true h2
      have HB := Lib.hid (show nameA s = (List.range s.size).all (nmAtA s) from by unfold nameA; rw [hz1, hz2]; rfl)
      clear hz1 hz2
      have d1 : decide ((s.size : Int) < 1) = false := by simp; omega
      have d2 : decide ((16 : Int) < (s.size : Int)) = false := by simp; omega
      have d3 : ¬ s.size = 0 := by omega
      go_enter Tryd.func10, Tryd.ntmps10
      go_wp2_with (fail)
      go_loop [16] (fun i => ∃ k : Nat, i = .int .i64 k ∧ k ≤ s.size ∧ (List.range k).all (nmAtA s) = true) (fun i => s.size - (intOf i).toNat)
      case atStart => exact ⟨0, rfl, by omega, rfl⟩
      case round =>
        obtain ⟨k, rfl, hk, hr⟩ := hrel
        have HR := Lib.hid hr
        clear hr
        by_cases hlt : k < s.size
        · have HN := Lib.hid (nmAtA_of hlt)
          have hn := letB_iff s[k]
          have hd := digB_iff s[k]
          have hcase : ((s[k].toNat : Int) < 48) ∨ (48 ≤ (s[k].toNat : Int) ∧ (s[k].toNat : Int) ≤ 57) ∨ (58 ≤ (s[k].toNat : Int) ∧ (s[k].toNat : Int) ≤ 96) ∨ (97 ≤ (s[k].toNat : Int) ∧ (s[k].toNat : Int) ≤ 122) ∨ 123 ≤ (s[k].toNat : Int) := by omega
          rcases hcase with hc | hc | hc | hc | hc
          · have q1 : decide (97 ≤ (s[k].toNat : Int)) = false := by simp; omega
            have q2 : decide ((s[k].toNat : Int) ≤ 122) = true := by simp; omega
            have q3 : decide (48 ≤ (s[k].toNat : Int)) = false := by simp; omega
            have q4 : decide ((s[k].toNat : Int) ≤ 57) = true := by simp; omega
            rw [q1, q2] at hn
            rw [q3, q4] at hd
            have HL := Lib.hid hn
            have HD := Lib.hid hd
            clear hn hd hc
            cases hz : k == 0 with
            | true =>
              have hz2 : ((k : Int) == 0) = true := by have e0 : k = 0 := (by simpa using hz); rw [e0]; rfl
              have HZ := Lib.hid hz
              clear hz
              have HV := Lib.hid (show nmAtA s k = false from by rw [HN.out, HL.out, HD.out]; have := HZ.out; simp [bne, this])
              clear HN HL HD
              go_wp2_with (fail)
              go_ret
              exact ⟨by rw [HB.out, nm_bad hlt HV.out]; rfl, Only.refl _ _⟩
            | false =>
              have hz2 : ((k : Int) == 0) = false := by have e0 : ¬ k = 0 := (by simpa using hz); rw [beq_eq_false_iff_ne]; omega
              have HZ := Lib.hid hz
              clear hz
              have HV := Lib.hid (show nmAtA s k = false from by rw [HN.out, HL.out, HD.out]; have := HZ.out; simp [bne, this])
              clear HN HL HD
              go_wp2_with (fail)
              go_ret
              exact ⟨by rw [HB.out, nm_bad hlt HV.out]; rfl, Only.refl _ _⟩
          · have q1 : decide (97 ≤ (s[k].toNat : Int)) = false := by simp; omega
            have q2 : decide ((s[k].toNat : Int) ≤ 122) = true := by simp; omega
            have q3 : decide (48 ≤ (s[k].toNat : Int)) = true := by simp; omega
            have q4 : decide ((s[k].toNat : Int) ≤ 57) = true := by simp; omega
            rw [q1, q2] at hn
            rw [q3, q4] at hd
            have HL := Lib.hid hn
            have HD := Lib.hid hd
            clear hn hd hc
            cases hz : k == 0 with
            | true =>
              have hz2 : ((k : Int) == 0) = true := by have e0 : k = 0 := (by simpa using hz); rw [e0]; rfl
              have HZ := Lib.hid hz
              clear hz
              have HV := Lib.hid (show nmAtA s k = false from by rw [HN.out, HL.out, HD.out]; have := HZ.out; simp [bne, this])
              clear HN HL HD
              go_wp2_with (fail)
              go_ret
              exact ⟨by rw [HB.out, nm_bad hlt HV.out]; rfl, Only.refl _ _⟩
            | false =>
              have hz2 : ((k : Int) == 0) = false := by have e0 : ¬ k = 0 := (by simpa using hz); rw [beq_eq_false_iff_ne]; omega
              have HZ := Lib.hid hz
              clear hz
              have HV := Lib.hid (show nmAtA s k = true from by rw [HN.out, HL.out, HD.out]; have := HZ.out; simp [bne, this])
              clear HN HL HD
              go_wp2_with (fail)
              go_round
              case rel => exact ⟨k + 1, by go_num, by omega, nm_to HR.out HV.out⟩
              case measure => simp [intOf]; omega
          · have q1 : decide (97 ≤ (s[k].toNat : Int)) = false := by simp; omega
            have q2 : decide ((s[k].toNat : Int) ≤ 122) = true := by simp; omega
            have q3 : decide (48 ≤ (s[k].toNat : Int)) = true := by simp; omega
            have q4 : decide ((s[k].toNat : Int) ≤ 57) = false := by simp; omega
            rw [q1, q2] at hn
            rw [q3, q4] at hd
            have HL := Lib.hid hn
            have HD := Lib.hid hd
            clear hn hd hc
            cases hz : k == 0 with
            | true =>
              have hz2 : ((k : Int) == 0) = true := by have e0 : k = 0 := (by simpa using hz); rw [e0]; rfl
              have HZ := Lib.hid hz
              clear hz
              have HV := Lib.hid (show nmAtA s k = false from by rw [HN.out, HL.out, HD.out]; have := HZ.out; simp [bne, this])
              clear HN HL HD
              go_wp2_with (fail)
              go_ret
              exact ⟨by rw [HB.out, nm_bad hlt HV.out]; rfl, Only.refl _ _⟩
            | false =>
              have hz2 : ((k : Int) == 0) = false := by have e0 : ¬ k = 0 := (by simpa using hz); rw [beq_eq_false_iff_ne]; omega
              have HZ := Lib.hid hz
              clear hz
              have HV := Lib.hid (show nmAtA s k = false from by rw [HN.out, HL.out, HD.out]; have := HZ.out; simp [bne, this])
              clear HN HL HD
              go_wp2_with (fail)
              go_ret
              exact ⟨by rw [HB.out, nm_bad hlt HV.out]; rfl, Only.refl _ _⟩
          · have q1 : decide (97 ≤ (s[k].toNat : Int)) = true := by simp; omega
            have q2 : decide ((s[k].toNat : Int) ≤ 122) = true := by simp; omega
            have q3 : decide (48 ≤ (s[k].toNat : Int)) = true := by simp; omega
            have q4 : decide ((s[k].toNat : Int) ≤ 57) = false := by simp; omega
            rw [q1, q2] at hn
            rw [q3, q4] at hd
            have HL := Lib.hid hn
            have HD := Lib.hid hd
            clear hn hd hc
            cases hz : k == 0 with
            | true =>
              have hz2 : ((k : Int) == 0) = true := by have e0 : k = 0 := (by simpa using hz); rw [e0]; rfl
              have HZ := Lib.hid hz
              clear hz
              have HV := Lib.hid (show nmAtA s k = true from by rw [HN.out, HL.out, HD.out]; have := HZ.out; simp [bne, this])
              clear HN HL HD
              go_wp2_with (fail)
              go_round
              case rel => exact ⟨k + 1, by go_num, by omega, nm_to HR.out HV.out⟩
              case measure => simp [intOf]; omega
            | false =>
              have hz2 : ((k : Int) == 0) = false := by have e0 : ¬ k = 0 := (by simpa using hz); rw [beq_eq_false_iff_ne]; omega
              have HZ := Lib.hid hz
              clear hz
              have HV := Lib.hid (show nmAtA s k = true from by rw [HN.out, HL.out, HD.out]; have := HZ.out; simp [bne, this])
              clear HN HL HD
              go_wp2_with (fail)
              go_round
              case rel => exact ⟨k + 1, by go_num, by omega, nm_to HR.out HV.out⟩
              case measure => simp [intOf]; omega
          · have q1 : decide (97 ≤ (s[k].toNat : Int)) = true := by simp; omega
            have q2 : decide ((s[k].toNat : Int) ≤ 122) = false := by simp; omega
            have q3 : decide (48 ≤ (s[k].toNat : Int)) = true := by simp; omega
            have q4 : decide ((s[k].toNat : Int) ≤ 57) = false := by simp; omega
            rw [q1, q2] at hn
            rw [q3, q4] at hd
            have HL := Lib.hid hn
            have HD := Lib.hid hd
            clear hn hd hc
            cases hz : k == 0 with
            | true =>
              have hz2 : ((k : Int) == 0) = true := by have e0 : k = 0 := (by simpa using hz); rw [e0]; rfl
              have HZ := Lib.hid hz
              clear hz
              have HV := Lib.hid (show nmAtA s k = false from by rw [HN.out, HL.out, HD.out]; have := HZ.out; simp [bne, this])
              clear HN HL HD
              go_wp2_with (fail)
              go_ret
              exact ⟨by rw [HB.out, nm_bad hlt HV.out]; rfl, Only.refl _ _⟩
            | false =>
              have hz2 : ((k : Int) == 0) = false := by have e0 : ¬ k = 0 := (by simpa using hz); rw [beq_eq_false_iff_ne]; omega
              have HZ := Lib.hid hz
              clear hz
              have HV := Lib.hid (show nmAtA s k = false from by rw [HN.out, HL.out, HD.out]; have := HZ.out; simp [bne, this])
              clear HN HL HD
              go_wp2_with (fail)
              go_ret
              exact ⟨by rw [HB.out, nm_bad hlt HV.out]; rfl, Only.refl _ _⟩
        · obtain rfl : k = s.size := by omega
          go_wp2_with (fail)
          go_ret
          exact ⟨by rw [HB.out, HR.out]; rfl, Only.refl _ _⟩
    · have hb : nameA s = false := by unfold nameA; simp; omega
      have d1 : decide ((s.size : Int) < 1) = false := by simp; omega
      have d2 : decide ((16 : Int) < (s.size : Int)) = true := by simp; omega
      have d3 : ¬ s.size = 0 := by omega
      rw [hb]
      clear h1 h2
      go_enter Tryd.func10, Tryd.ntmps10
      go_wp2_with (fail)
      go_ret
      exact ⟨rfl, Only.refl _ _⟩
  · have hb : nameA s = false := by unfold nameA; simp; omega
    have d1 : decide ((s.size : Int) < 1) = true := by simp; omega
    have d3 : s.size = 0 := by omega
    rw [hb]
    clear h1
    go_enter Tryd.func10, Tryd.ntmps10
    go_wp2_with (fail)
    go_ret
    exact ⟨rfl, Only.refl _ _⟩
set_option maxHeartbeats 4000000 in
theorem rname_any {s : ByteArray} {w : World} (hs : s.size ≤ 9223372036854775807) :
    Calls Tryd.prog 11 #[.string s] w fun e w' => e = .returned (.bool (nameA s)) ∧ Only [] w w' := by
  by_cases h1 : 1 ≤ s.size
  · by_cases h2 : s.size ≤ 16
    · have hz1 := decide_eq_true h1
      have hz2 := decide_eq_true h2
      have HB := Lib.hid (show nameA s = (List.range s.size).all (nmAtA s) from by unfold nameA; rw [hz1, hz2]; rfl)
      clear hz1 hz2
      have d1 : decide ((s.size : Int) < 1) = false := by simp; omega
      have d2 : decide ((16 : Int) < (s.size : Int)) = false := by simp; omega
      have d3 : ¬ s.size = 0 := by omega
      go_enter Tryd.func11, Tryd.ntmps11
      go_wp2_with (fail)
      go_loop [3] (fun i => ∃ k : Nat, i = .int .i64 k ∧ k ≤ s.size ∧ (List.range k).all (nmAtA s) = true) (fun i => s.size - (intOf i).toNat)
      case atStart => exact ⟨0, rfl, by omega, rfl⟩
      case round =>
        obtain ⟨k, rfl, hk, hr⟩ := hrel
        have HR := Lib.hid hr
        clear hr
        by_cases hlt : k < s.size
        · have HN := Lib.hid (nmAtA_of hlt)
          have hn := letB_iff s[k]
          have hd := digB_iff s[k]
          have hcase : ((s[k].toNat : Int) < 48) ∨ (48 ≤ (s[k].toNat : Int) ∧ (s[k].toNat : Int) ≤ 57) ∨ (58 ≤ (s[k].toNat : Int) ∧ (s[k].toNat : Int) ≤ 96) ∨ (97 ≤ (s[k].toNat : Int) ∧ (s[k].toNat : Int) ≤ 122) ∨ 123 ≤ (s[k].toNat : Int) := by omega
          rcases hcase with hc | hc | hc | hc | hc
          · have q1 : decide (97 ≤ (s[k].toNat : Int)) = false := by simp; omega
            have q2 : decide ((s[k].toNat : Int) ≤ 122) = true := by simp; omega
            have q3 : decide (48 ≤ (s[k].toNat : Int)) = false := by simp; omega
            have q4 : decide ((s[k].toNat : Int) ≤ 57) = true := by simp; omega
            rw [q1, q2] at hn
            rw [q3, q4] at hd
            have HL := Lib.hid hn
            have HD := Lib.hid hd
            clear hn hd hc
            cases hz : k == 0 with
            | true =>
              have hz2 : ((k : Int) == 0) = true := by have e0 : k = 0 := (by simpa using hz); rw [e0]; rfl
              have HZ := Lib.hid hz
              clear hz
              have HV := Lib.hid (show nmAtA s k = false from by rw [HN.out, HL.out, HD.out]; have := HZ.out; simp [bne, this])
              clear HN HL HD
              go_wp2_with (fail)
              go_ret
              exact ⟨by rw [HB.out, nm_bad hlt HV.out]; rfl, Only.refl _ _⟩
            | false =>
              have hz2 : ((k : Int) == 0) = false := by have e0 : ¬ k = 0 := (by simpa using hz); rw [beq_eq_false_iff_ne]; omega
              have HZ := Lib.hid hz
              clear hz
              have HV := Lib.hid (show nmAtA s k = false from by rw [HN.out, HL.out, HD.out]; have := HZ.out; simp [bne, this])
              clear HN HL HD
              go_wp2_with (fail)
              go_ret
              exact ⟨by rw [HB.out, nm_bad hlt HV.out]; rfl, Only.refl _ _⟩
          · have q1 : decide (97 ≤ (s[k].toNat : Int)) = false := by simp; omega
            have q2 : decide ((s[k].toNat : Int) ≤ 122) = true := by simp; omega
            have q3 : decide (48 ≤ (s[k].toNat : Int)) = true := by simp; omega
            have q4 : decide ((s[k].toNat : Int) ≤ 57) = true := by simp; omega
            rw [q1, q2] at hn
            rw [q3, q4] at hd
            have HL := Lib.hid hn
            have HD := Lib.hid hd
            clear hn hd hc
            cases hz : k == 0 with
            | true =>
              have hz2 : ((k : Int) == 0) = true := by have e0 : k = 0 := (by simpa using hz); rw [e0]; rfl
              have HZ := Lib.hid hz
              clear hz
              have HV := Lib.hid (show nmAtA s k = false from by rw [HN.out, HL.out, HD.out]; have := HZ.out; simp [bne, this])
              clear HN HL HD
              go_wp2_with (fail)
              go_ret
              exact ⟨by rw [HB.out, nm_bad hlt HV.out]; rfl, Only.refl _ _⟩
            | false =>
              have hz2 : ((k : Int) == 0) = false := by have e0 : ¬ k = 0 := (by simpa using hz); rw [beq_eq_false_iff_ne]; omega
              have HZ := Lib.hid hz
              clear hz
              have HV := Lib.hid (show nmAtA s k = true from by rw [HN.out, HL.out, HD.out]; have := HZ.out; simp [bne, this])
              clear HN HL HD
              go_wp2_with (fail)
              go_round
              case rel => exact ⟨k + 1, by go_num, by omega, nm_to HR.out HV.out⟩
              case measure => simp [intOf]; omega
          · have q1 : decide (97 ≤ (s[k].toNat : Int)) = false := by simp; omega
            have q2 : decide ((s[k].toNat : Int) ≤ 122) = true := by simp; omega
            have q3 : decide (48 ≤ (s[k].toNat : Int)) = true := by simp; omega
            have q4 : decide ((s[k].toNat : Int) ≤ 57) = false := by simp; omega
            rw [q1, q2] at hn
            rw [q3, q4] at hd
            have HL := Lib.hid hn
            have HD := Lib.hid hd
            clear hn hd hc
            cases hz : k == 0 with
            | true =>
              have hz2 : ((k : Int) == 0) = true := by have e0 : k = 0 := (by simpa using hz); rw [e0]; rfl
              have HZ := Lib.hid hz
              clear hz
              have HV := Lib.hid (show nmAtA s k = false from by rw [HN.out, HL.out, HD.out]; have := HZ.out; simp [bne, this])
              clear HN HL HD
              go_wp2_with (fail)
              go_ret
              exact ⟨by rw [HB.out, nm_bad hlt HV.out]; rfl, Only.refl _ _⟩
            | false =>
              have hz2 : ((k : Int) == 0) = false := by have e0 : ¬ k = 0 := (by simpa using hz); rw [beq_eq_false_iff_ne]; omega
              have HZ := Lib.hid hz
              clear hz
              have HV := Lib.hid (show nmAtA s k = false from by rw [HN.out, HL.out, HD.out]; have := HZ.out; simp [bne, this])
              clear HN HL HD
              go_wp2_with (fail)
              go_ret
              exact ⟨by rw [HB.out, nm_bad hlt HV.out]; rfl, Only.refl _ _⟩
          · have q1 : decide (97 ≤ (s[k].toNat : Int)) = true := by simp; omega
            have q2 : decide ((s[k].toNat : Int) ≤ 122) = true := by simp; omega
            have q3 : decide (48 ≤ (s[k].toNat : Int)) = true := by simp; omega
            have q4 : decide ((s[k].toNat : Int) ≤ 57) = false := by simp; omega
            rw [q1, q2] at hn
            rw [q3, q4] at hd
            have HL := Lib.hid hn
            have HD := Lib.hid hd
            clear hn hd hc
            cases hz : k == 0 with
            | true =>
              have hz2 : ((k : Int) == 0) = true := by have e0 : k = 0 := (by simpa using hz); rw [e0]; rfl
              have HZ := Lib.hid hz
              clear hz
              have HV := Lib.hid (show nmAtA s k = true from by rw [HN.out, HL.out, HD.out]; have := HZ.out; simp [bne, this])
              clear HN HL HD
              go_wp2_with (fail)
              go_round
              case rel => exact ⟨k + 1, by go_num, by omega, nm_to HR.out HV.out⟩
              case measure => simp [intOf]; omega
            | false =>
              have hz2 : ((k : Int) == 0) = false := by have e0 : ¬ k = 0 := (by simpa using hz); rw [beq_eq_false_iff_ne]; omega
              have HZ := Lib.hid hz
              clear hz
              have HV := Lib.hid (show nmAtA s k = true from by rw [HN.out, HL.out, HD.out]; have := HZ.out; simp [bne, this])
              clear HN HL HD
              go_wp2_with (fail)
              go_round
              case rel => exact ⟨k + 1, by go_num, by omega, nm_to HR.out HV.out⟩
              case measure => simp [intOf]; omega
          · have q1 : decide (97 ≤ (s[k].toNat : Int)) = true := by simp; omega
            have q2 : decide ((s[k].toNat : Int) ≤ 122) = false := by simp; omega
            have q3 : decide (48 ≤ (s[k].toNat : Int)) = true := by simp; omega
            have q4 : decide ((s[k].toNat : Int) ≤ 57) = false := by simp; omega
            rw [q1, q2] at hn
            rw [q3, q4] at hd
            have HL := Lib.hid hn
            have HD := Lib.hid hd
            clear hn hd hc
            cases hz : k == 0 with
            | true =>
              have hz2 : ((k : Int) == 0) = true := by have e0 : k = 0 := (by simpa using hz); rw [e0]; rfl
              have HZ := Lib.hid hz
              clear hz
              have HV := Lib.hid (show nmAtA s k = false from by rw [HN.out, HL.out, HD.out]; have := HZ.out; simp [bne, this])
              clear HN HL HD
              go_wp2_with (fail)
              go_ret
              exact ⟨by rw [HB.out, nm_bad hlt HV.out]; rfl, Only.refl _ _⟩
            | false =>
              have hz2 : ((k : Int) == 0) = false := by have e0 : ¬ k = 0 := (by simpa using hz); rw [beq_eq_false_iff_ne]; omega
              have HZ := Lib.hid hz
              clear hz
              have HV := Lib.hid (show nmAtA s k = false from by rw [HN.out, HL.out, HD.out]; have := HZ.out; simp [bne, this])
              clear HN HL HD
              go_wp2_with (fail)
              go_ret
              exact ⟨by rw [HB.out, nm_bad hlt HV.out]; rfl, Only.refl _ _⟩
        · obtain rfl : k = s.size := by omega
          go_wp2_with (fail)
          go_ret
          exact ⟨by rw [HB.out, HR.out]; rfl, Only.refl _ _⟩
    · have hb : nameA s = false := by unfold nameA; simp; omega
      have d1 : decide ((s.size : Int) < 1) = false := by simp; omega
      have d2 : decide ((16 : Int) < (s.size : Int)) = true := by simp; omega
      have d3 : ¬ s.size = 0 := by omega
      rw [hb]
      clear h1 h2
      go_enter Tryd.func11, Tryd.ntmps11
      go_wp2_with (fail)
      go_ret
      exact ⟨rfl, Only.refl _ _⟩
  · have hb : nameA s = false := by unfold nameA; simp; omega
    have d1 : decide ((s.size : Int) < 1) = true := by simp; omega
    have d3 : s.size = 0 := by omega
    rw [hb]
    clear h1
    go_enter Tryd.func11, Tryd.ntmps11
    go_wp2_with (fail)
    go_ret
    exact ⟨rfl, Only.refl _ _⟩
theorem nameA_eq (s : ByteArray) : nameA s = nameB s.toList := by
  have hl : s.toList.length = s.size := by rw [ByteArray.toList_eq]; rfl
  unfold nameA nameB
  rw [hl]
  congr 1
  have h : ∀ k ∈ List.range s.size, nmAtA s k = nmAt s.toList k := fun k hk => by
    have hk2 : k < s.size := List.mem_range.1 hk
    unfold nmAtA nmAt
    have e : s.toList[k]? = some s[k] := by
      rw [ByteArray.toList_eq]
      show s.data.toList[k]? = some s[k]
      rw [Array.getElem?_toList, Array.getElem?_eq_getElem hk2]
      rfl
    rw [e, getElem?_pos s k hk2]
  rw [Bool.eq_iff_iff]
  simp only [List.all_eq_true]
  exact ⟨fun h1 k hk => by rw [← h k hk]; exact h1 k hk, fun h1 k hk => by rw [h k hk]; exact h1 k hk⟩
theorem name_any {s : ByteArray} {w : World} (hs : s.size ≤ 9223372036854775807) : Calls Tryd.prog 10 #[.string s] w fun e w' => e = .returned (.bool (nameB s.toList)) ∧ Only [] w w' := by
  rw [← nameA_eq]
  exact vname_any hs
theorem refname_any {s : ByteArray} {w : World} (hs : s.size ≤ 9223372036854775807) : Calls Tryd.prog 11 #[.string s] w fun e w' => e = .returned (.bool (nameB s.toList)) ∧ Only [] w w' := by
  rw [← nameA_eq]
  exact rname_any hs
end Go.Proofs.YtgpljjejfebhoaaDoor
