/- letter, digit: of a byte; what stands ahead of a word. -/
import Derived.Test.YtghofiehkdhbeaaDoorAgain
import Derived.Test.YtghofiehkdhbeaaDoorShelf
import Derived.Test.YtghofiehkdhbeaaDoorWords
import Derived.Lib.Strings
namespace Go.Proofs.YtghofiehkdhbeaaDoor
open Go.RowKit Go.Kx Go.Tok
set_option maxRecDepth 100000

theorem isLet_iff (c : UInt8) : isLet c = (decide (97 ≤ (c.toNat : Int)) && decide ((c.toNat : Int) ≤ 122)) := by
  unfold isLet
  congr 1 <;> (rw [decide_eq_decide]; omega)
theorem isDig_iff (c : UInt8) : isDig c = (decide (48 ≤ (c.toNat : Int)) && decide ((c.toNat : Int) ≤ 57)) := by
  unfold isDig
  congr 1 <;> (rw [decide_eq_decide]; omega)
theorem letter_any (c : UInt8) (w : World) : Calls Tryd.prog 20 #[.int .u8 c.toNat] w fun e w' => e = .returned (.bool (isLet c)) ∧ w' = w := by
  have H := Lib.hid (isLet_iff c)
  cases q1 : decide (97 ≤ (c.toNat : Int)) <;> cases q2 : decide ((c.toNat : Int) ≤ 122)
  all_goals
    go_enter Tryd.func20, Tryd.ntmps20
    go_wp2_with (fail)
    go_ret
    exact ⟨by rw [H.out, q1, q2]; rfl, rfl⟩
theorem digit_any (c : UInt8) (w : World) : Calls Tryd.prog 22 #[.int .u8 c.toNat] w fun e w' => e = .returned (.bool (isDig c)) ∧ w' = w := by
  have H := Lib.hid (isDig_iff c)
  cases q1 : decide (48 ≤ (c.toNat : Int)) <;> cases q2 : decide ((c.toNat : Int) ≤ 57)
  all_goals
    go_enter Tryd.func22, Tryd.ntmps22
    go_wp2_with (fail)
    go_ret
    exact ⟨by rw [H.out, q1, q2]; rfl, rfl⟩
theorem rletter_any (c : UInt8) (w : World) : Calls Tryd.prog 14 #[.int .u8 c.toNat] w fun e w' => e = .returned (.bool (isLet c)) ∧ w' = w := by
  have H := Lib.hid (isLet_iff c)
  cases q1 : decide (97 ≤ (c.toNat : Int)) <;> cases q2 : decide ((c.toNat : Int) ≤ 122)
  all_goals
    go_enter Tryd.func14, Tryd.ntmps14
    go_wp2_with (fail)
    go_ret
    exact ⟨by rw [H.out, q1, q2]; rfl, rfl⟩
theorem rdigit_any (c : UInt8) (w : World) : Calls Tryd.prog 15 #[.int .u8 c.toNat] w fun e w' => e = .returned (.bool (isDig c)) ∧ w' = w := by
  have H := Lib.hid (isDig_iff c)
  cases q1 : decide (48 ≤ (c.toNat : Int)) <;> cases q2 : decide ((c.toNat : Int) ≤ 57)
  all_goals
    go_enter Tryd.func15, Tryd.ntmps15
    go_wp2_with (fail)
    go_ret
    exact ⟨by rw [H.out, q1, q2]; rfl, rfl⟩
/-! ### what stands ahead -/
theorem drop_cons {s : ByteArray} {k : Nat} (h : k < s.size) : s.data.toList.drop k = s[k] :: s.data.toList.drop (k + 1) := by
  have h2 : k < s.data.toList.length := by simpa using h
  rw [List.drop_eq_getElem_cons h2]
  rfl
theorem drop_end (s : ByteArray) : s.data.toList.drop s.size = [] := by
  rw [List.drop_of_length_le]
  simp
theorem ext_drop (s : ByteArray) (k : Nat) : (s.extract k s.size).data.toList = s.data.toList.drop k := by
  simp
  rw [List.take_of_length_le (by simp)]
theorem rest_index (l : List UInt8) : Lib.indexByte l 10 = if rest l < l.length then (rest l : Int) else -1 := by
  induction l with
  | nil => simp [Lib.indexByte, rest]
  | cons c r ih =>
    unfold Lib.indexByte rest
    by_cases h : c.toNat = 10
    · have hc : c = 10 := UInt8.toNat_inj.1 h
      simp [hc]
    · have hc : (c == 10) = false := by
        rw [beq_eq_false_iff_ne]
        intro e; exact h (by rw [e]; rfl)
      rw [hc, if_neg h, ih]
      simp only [Bool.false_eq_true, if_false, List.length_cons]
      by_cases h2 : rest r < r.length
      · have e1 : (if rest r < r.length then ((rest r : Nat) : Int) else -1) = ((rest r : Nat) : Int) := if_pos h2
        have : (((rest r : Nat) : Int) == -1) = false := by rw [beq_eq_false_iff_ne]; omega
        rw [e1, this]
        simp [h2]
      · have e1 : (if rest r < r.length then ((rest r : Nat) : Int) else -1) = -1 := if_neg h2
        rw [e1]
        simp [h2]
theorem sk_at_blank {s : ByteArray} {k : Nat} (h : k < s.size) (hb : isBlank s[k] = true) : sk false (s.data.toList.drop k) = 1 + sk false (s.data.toList.drop (k + 1)) := by
  rw [drop_cons h]; simp only [sk]; rw [if_pos hb]
theorem sk_at_other {s : ByteArray} {k : Nat} (h : k < s.size) (hb : isBlank s[k] = false) (h35 : s[k].toNat ≠ 35) : sk false (s.data.toList.drop k) = 0 := by
  rw [drop_cons h]; simp only [sk]; rw [if_neg (by simp [hb]), if_neg h35]
theorem sk_at_remark {s : ByteArray} {k : Nat} (h : k < s.size) (h35 : s[k].toNat = 35) :
    (rest (s.data.toList.drop k) < s.size - k → k + rest (s.data.toList.drop k) < s.size ∧ k + sk false (s.data.toList.drop k) = k + rest (s.data.toList.drop k) + 1 + sk false (s.data.toList.drop (k + rest (s.data.toList.drop k) + 1))) ∧
    (¬ rest (s.data.toList.drop k) < s.size - k → k + sk false (s.data.toList.drop k) = s.size) := by
  have hb : isBlank s[k] = false := by unfold isBlank; simp; omega
  have e : sk false (s.data.toList.drop k) = 1 + sk true (s.data.toList.drop (k + 1)) := by
    rw [drop_cons h]; simp only [sk]; rw [if_neg (by simp [hb]), if_pos h35]
  have e2 : rest (s.data.toList.drop k) = rest (s.data.toList.drop (k + 1)) + 1 := by
    rw [drop_cons h]; simp only [rest]; rw [if_neg (by omega)]
  have hlen : (s.data.toList.drop (k + 1)).length = s.size - (k + 1) := by simp
  obtain ⟨h1, h2⟩ := sk_true (s.data.toList.drop (k + 1))
  rw [hlen] at h1 h2
  rw [e, e2]
  refine ⟨fun hr => ?_, fun hr => ?_⟩
  · rw [h1 (by omega), List.drop_drop]
    refine ⟨by omega, ?_⟩
    have e3 : k + 1 + (rest (s.data.toList.drop (k + 1)) + 1) = k + (rest (s.data.toList.drop (k + 1)) + 1) + 1 := by omega
    rw [e3]
    omega
  · rw [h2 (by omega)]
    omega
set_option maxHeartbeats 2000000 in
theorem skip_any (s : ByteArray) (hs : s.size ≤ 9223372036854775000) (a : Nat) (ha : a ≤ s.size) (w : World) : Calls Tryd.prog 19 #[.string s, .int .i64 a] w fun e w' => e = .returned (.int .i64 ((a + sk false (s.data.toList.drop a) : Nat) : Int)) ∧ w' = w := by
  obtain ⟨z, hz⟩ : ∃ z, a + sk false (s.data.toList.drop a) = z := ⟨_, rfl⟩
  rw [hz]
  have HZ := Lib.hid hz
  clear hz
  go_enter Tryd.func19, Tryd.ntmps19
  go_wp2_with (fail)
  go_loop [1] (fun i => ∃ k : Nat, i = .int .i64 k ∧ k ≤ s.size ∧ Hid (k + sk false (s.data.toList.drop k) = z)) (fun i => s.size - (intOf i).toNat)
  case atStart => exact ⟨a, rfl, ha, HZ⟩
  case round =>
    obtain ⟨k, rfl, hk, HR⟩ := hrel
    by_cases hlt : k < s.size
    · cases hb : isBlank s[k] with
      | true =>
        have HE := Lib.hid (sk_at_blank hlt hb)
        have hc : s[k].toNat = 32 ∨ s[k].toNat = 9 ∨ s[k].toNat = 10 := by unfold isBlank at hb; simpa [or_assoc] using hb
        clear hb
        rcases hc with hc | hc | hc
        all_goals
          have q1 : ((s[k].toNat : Nat) : Int) = _ := congrArg (fun n : Nat => (n : Int)) hc
          clear hc
          go_wp2_with (fail)
          go_round
          case rel => exact ⟨k + 1, by go_num, by omega, Lib.hid (by have := HR.out; rw [HE.out] at this; omega)⟩
          case measure => simp [intOf]; omega
      | false =>
        have hc : s[k].toNat ≠ 32 ∧ s[k].toNat ≠ 9 ∧ s[k].toNat ≠ 10 := by unfold isBlank at hb; simpa [and_assoc] using hb
        have q1 : ¬ ((s[k].toNat : Nat) : Int) = 32 := by omega
        have q2 : ¬ ((s[k].toNat : Nat) : Int) = 9 := by omega
        have q3 : ¬ ((s[k].toNat : Nat) : Int) = 10 := by omega
        by_cases h35 : s[k].toNat = 35
        · have q4 : ((s[k].toNat : Nat) : Int) = 35 := by omega
          obtain ⟨g1, g2⟩ := sk_at_remark hlt h35
          have hix := rest_index (s.data.toList.drop k)
          have hlen : (s.data.toList.drop k).length = s.size - k := by simp
          rw [hlen] at hix
          have hc := fun w => Tryd.strings_IndexByte (s.extract k s.size) 10 w
          rw [ext_drop] at hc
          have e10 : (10 : Int).toNat.toUInt8 = 10 := rfl
          rw [e10, hix] at hc
          have hrl := rest_le (s.data.toList.drop k)
          rw [hlen] at hrl
          have HG1 := Lib.hid g1
          have HG2 := Lib.hid g2
          have HC := Lib.hid hc
          clear hc g1 g2 hix hlen hb h35
          generalize rest (s.data.toList.drop k) = r at *
          by_cases hr : r < s.size - k
          · have HE := Lib.hid (HG1.out hr)
            have HI := Lib.hid (show (if r < s.size - k then ((r : Nat) : Int) else -1) = r from if_pos hr)
            have h1 := HE.out.1
            go_wp2_with (fail)
            refine (HC.out _).mono ?_
            rintro e w1 ⟨rfl, rfl⟩
            rw [HI.out]
            go_wp2_with (fail)
            go_round
            case rel => exact ⟨k + r + 1, by go_num, by omega, Lib.hid (by have := HR.out; have := HE.out.2; omega)⟩
            case measure => simp [intOf]; omega
          · have HE := Lib.hid (HG2.out hr)
            have HI := Lib.hid (show (if r < s.size - k then ((r : Nat) : Int) else -1) = -1 from if_neg hr)
            go_wp2_with (fail)
            refine (HC.out _).mono ?_
            rintro e w1 ⟨rfl, rfl⟩
            rw [HI.out]
            go_wp2_with (fail)
            go_ret
            exact ⟨by rw [← HR.out, HE.out]; rfl, rfl⟩
        · have q4 : ¬ ((s[k].toNat : Nat) : Int) = 35 := by omega
          have HE := Lib.hid (sk_at_other hlt hb h35)
          clear hb hc h35
          go_wp2_with (fail)
          go_ret
          exact ⟨by have := HR.out; rw [HE.out] at this; rw [← this]; rfl, rfl⟩
    · obtain rfl : k = s.size := by omega
      go_wp2_with (fail)
      go_ret
      exact ⟨by have := HR.out; rw [drop_end] at this; rw [← this]; rfl, rfl⟩
end Go.Proofs.YtghofiehkdhbeaaDoor
