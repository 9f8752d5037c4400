/- name: of a text. -/
import Derived.Test.YtghofiehkdhbeaaDoorByte
namespace Go.Proofs.YtghofiehkdhbeaaDoor
open Go.RowKit Go.Kx Go.Tok
set_option maxRecDepth 100000

def tokV (k : Nat) (l : List UInt8) (n p : Nat) : Value := .agg #[.int .i64 k, .string ⟨l.toArray⟩, .int .i64 n, .int .i64 p]
def badV (p e : Nat) : Value := .tuple #[.agg #[.int .i64 0, .string ⟨#[]⟩, .int .i64 0, .int .i64 p], .int .i64 p, .int .i64 e]
def okV (t : Tok) (p q : Nat) : Value := .tuple #[.agg #[.int .i64 t.kind, .string ⟨t.s.toArray⟩, .int .i64 t.n, .int .i64 p], .int .i64 q, .int .i64 0]
/-- what word, name, number answer -/
def wdV (p : Nat) : Wd → Value
  | .bad e => badV p e
  | .ok t n => okV t p (p + n)
theorem run_at {p : UInt8 → Bool} {s : ByteArray} {k : Nat} (h : k < s.size) : (run p (s.data.toList.drop k)).length = if p s[k] then 1 + (run p (s.data.toList.drop (k + 1))).length else 0 := by
  rw [drop_cons h]
  unfold run
  rw [List.takeWhile_cons]
  split
  · rw [List.length_cons]; omega
  · rfl
theorem run_end (p : UInt8 → Bool) (s : ByteArray) : (run p (s.data.toList.drop s.size)).length = 0 := by
  rw [drop_end]; rfl
theorem ext_run (p : UInt8 → Bool) (s : ByteArray) (k : Nat) : s.extract k (k + (run p (s.data.toList.drop k)).length) = ⟨(run p (s.data.toList.drop k)).toArray⟩ := by
  apply ByteArray.ext
  apply Array.toList_inj.1
  simp
  conv => rhs; rw [← run_pre p (s.data.toList.drop k)]
  first | done | (congr 1; omega)
theorem run_size (p : UInt8 → Bool) (s : ByteArray) {k : Nat} (h : k ≤ s.size) : k + (run p (s.data.toList.drop k)).length ≤ s.size := by
  have := run_le p (s.data.toList.drop k)
  simp at this
  omega
theorem first_at {p : UInt8 → Bool} {s : ByteArray} {k : Nat} (h : k < s.size) : first p (s.data.toList.drop k) = p s[k] := by
  rw [drop_cons h]; rfl
theorem only_four {w w' : World} (o : Only [] w w') {b : Nat} (hb : w.heap.size ≤ b) (v0 v1 v2 v3 : Value) : Only [] w ((((w'.setCell ⟨b, 0, none⟩ v0).setCell ⟨b, 1, none⟩ v1).setCell ⟨b, 2, none⟩ v2).setCell ⟨b, 3, none⟩ v3) :=
  (((o.setCell (.inr hb) _).setCell (.inr hb) _).setCell (.inr hb) _).setCell (.inr hb) _
set_option maxHeartbeats 2000000 in
theorem name_any (s : ByteArray) (hs : s.size ≤ 9223372036854775000) (kind p f : Nat) (hf : f ≤ s.size) (hp : p ≤ f) (w : World) :
    Calls Tryd.prog 21 #[.string s, .int .i64 kind, .int .i64 p, .int .i64 f] w fun e w' => e = .returned (wdV p (nameW kind (f - p) (s.data.toList.drop f))) ∧ Only [] w w' := by
  have o0 : Only [] w (w.alloc (.cells #[.int .i64 0, .string ⟨#[]⟩, .int .i64 0, .int .i64 0] 28)) := (Only.refl _ _).alloc _
  have HO := Lib.hid o0
  clear o0
  obtain ⟨R, hR⟩ : ∃ R, wdV p (nameW kind (f - p) (s.data.toList.drop f)) = R := ⟨_, rfl⟩
  rw [hR]
  have HR := Lib.hid hR
  clear hR
  by_cases hlt : f < s.size
  · have d1 : ((f : Int) == (s.size : Int)) = false := by rw [beq_eq_false_iff_ne]; omega
    have d2 : (f == s.size) = false := by rw [beq_eq_false_iff_ne]; omega
    cases hl : isLet s[f] with
    | false =>
      have HF := Lib.hid (show R = badV p 5 by rw [← HR.out]; unfold nameW; rw [first_at hlt, hl]; rfl)
      have HL := Lib.hid hl
      clear hl
      go_enter Tryd.func21, Tryd.ntmps21
      go_wp2_with (fail)
      refine (letter_any _ _).mono ?_
      rintro e w1 ⟨rfl, rfl⟩
      rw [HL.out]
      go_wp2_with (fail)
      rw [HF.out]
      exact bodyPost_ret (v := badV p 5) (by simp [results, Tryd.results21, go_sem, badV]) rfl ⟨rfl, by first | exact (Only.refl _ _).alloc _ | exact only_four HO.out (Nat.le_refl _) _ _ _ _⟩
    | true =>
      obtain ⟨z, hz⟩ : ∃ z, (run isAl (s.data.toList.drop f)).length = z := ⟨_, rfl⟩
      have hzs := run_size isAl s hf
      have hex := ext_run isAl s f
      have HRB := Lib.hid (show 16 < z → nameW kind (f - p) (s.data.toList.drop f) = .bad 9 from fun h => by unfold nameW; rw [first_at hlt, hl, if_pos rfl, if_pos (by rw [hz]; exact h)])
      have HRG := Lib.hid (show ¬ 16 < z → nameW kind (f - p) (s.data.toList.drop f) = .ok ⟨kind, run isAl (s.data.toList.drop f), 0⟩ (f - p + z) from fun h => by unfold nameW; rw [first_at hlt, hl, if_pos rfl, if_neg (by rw [hz]; exact h), hz])
      rw [hz] at hzs hex
      have HEX := Lib.hid hex
      have HZ := Lib.hid (show f + (run isAl (s.data.toList.drop f)).length = f + z by rw [hz])
      have HL := Lib.hid hl
      clear hl hz hex
      go_enter Tryd.func21, Tryd.ntmps21
      go_wp2_with (fail)
      refine (letter_any _ _).mono ?_
      rintro e w1 ⟨rfl, rfl⟩
      rw [HL.out]
      go_wp2_with (fail)
      go_loop [11] (fun i => ∃ k : Nat, i = .int .i64 k ∧ f ≤ k ∧ k ≤ s.size ∧ Hid (k + (run isAl (s.data.toList.drop k)).length = f + z)) (fun i => s.size - (intOf i).toNat)
      case atStart => exact ⟨f, rfl, Nat.le_refl _, hf, HZ⟩
      case round =>
        clear d1 d2
        obtain ⟨k, rfl, hfk, hk, HK⟩ := hrel
        by_cases hlt2 : k < s.size
        · have HRA := Lib.hid (run_at (p := isAl) hlt2)
          cases hl2 : isLet s[k] with
          | true =>
            have HL2 := Lib.hid hl2
            have HA := Lib.hid (show isAl s[k] = true by unfold isAl; rw [hl2]; rfl)
            clear hl2
            go_wp2_with (fail)
            refine (letter_any _ _).mono ?_
            rintro e w1 ⟨rfl, rfl⟩
            rw [HL2.out]
            go_wp2_with (fail)
            go_round
            case rel => exact ⟨k + 1, by go_num, by omega, by omega, Lib.hid (by have h1 := HK.out; rw [HRA.out, HA.out, if_pos rfl] at h1; omega)⟩
            case measure => simp [intOf]; omega
          | false =>
            have HL2 := Lib.hid hl2
            cases hd2 : isDig s[k] with
            | true =>
              have HD2 := Lib.hid hd2
              have HA := Lib.hid (show isAl s[k] = true by unfold isAl; rw [hl2, hd2]; rfl)
              clear hl2 hd2
              go_wp2_with (fail)
              refine (letter_any _ _).mono ?_
              rintro e w1 ⟨rfl, rfl⟩
              rw [HL2.out]
              go_wp2_with (fail)
              refine (digit_any _ _).mono ?_
              rintro e w1 ⟨rfl, rfl⟩
              rw [HD2.out]
              go_wp2_with (fail)
              go_round
              case rel => exact ⟨k + 1, by go_num, by omega, by omega, Lib.hid (by have h1 := HK.out; rw [HRA.out, HA.out, if_pos rfl] at h1; omega)⟩
              case measure => simp [intOf]; omega
            | false =>
              have HD2 := Lib.hid hd2
              have HA := Lib.hid (show isAl s[k] = false by unfold isAl; rw [hl2, hd2]; rfl)
              have hkz : k = f + z := by have h1 := HK.out; rw [HRA.out, HA.out, if_neg (by decide)] at h1; omega
              clear hl2 hd2
              subst hkz
              go_wp2_with (fail)
              refine (letter_any _ _).mono ?_
              rintro e w1 ⟨rfl, rfl⟩
              rw [HL2.out]
              go_wp2_with (fail)
              refine (digit_any _ _).mono ?_
              rintro e w1 ⟨rfl, rfl⟩
              rw [HD2.out]
              by_cases h16 : 16 < z
              · have e1 : (16 : Int) < (z : Int) := by omega
                have HF := Lib.hid (show R = badV p 9 by rw [← HR.out, HRB.out h16]; rfl)
                go_wp2_with (fail)
                rw [HF.out]
                exact bodyPost_ret (v := badV p 9) (by simp [results, Tryd.results21, go_sem, badV]) rfl ⟨rfl, by first | exact (Only.refl _ _).alloc _ | exact only_four HO.out (Nat.le_refl _) _ _ _ _⟩
              · have e1 : ¬ (16 : Int) < (z : Int) := by omega
                have HF := Lib.hid (show R = okV ⟨kind, run isAl (s.data.toList.drop f), 0⟩ p (f + z) by rw [← HR.out, HRG.out h16, wdV, show p + (f - p + z) = f + z by omega])
                go_wp2_with (fail)
                rw [HF.out]
                rw [HEX.out]
                exact bodyPost_ret (v := okV ⟨kind, run isAl (s.data.toList.drop f), 0⟩ p (f + z)) (by simp [results, Tryd.results21, go_sem, okV]) rfl ⟨rfl, by first | exact (Only.refl _ _).alloc _ | exact only_four HO.out (Nat.le_refl _) _ _ _ _⟩
        · have hks : k = s.size := by omega
          have hkz : k = f + z := by have h1 := HK.out; rw [hks, run_end] at h1; omega
          clear hks
          subst hkz
          clear HK
          by_cases h16 : 16 < z
          · have e1 : (16 : Int) < (z : Int) := by omega
            have HF := Lib.hid (show R = badV p 9 by rw [← HR.out, HRB.out h16]; rfl)
            go_wp2_with (fail)
            rw [HF.out]
            exact bodyPost_ret (v := badV p 9) (by simp [results, Tryd.results21, go_sem, badV]) rfl ⟨rfl, by first | exact (Only.refl _ _).alloc _ | exact only_four HO.out (Nat.le_refl _) _ _ _ _⟩
          · have e1 : ¬ (16 : Int) < (z : Int) := by omega
            have HF := Lib.hid (show R = okV ⟨kind, run isAl (s.data.toList.drop f), 0⟩ p (f + z) by rw [← HR.out, HRG.out h16, wdV, show p + (f - p + z) = f + z by omega])
            go_wp2_with (fail)
            rw [HF.out]
            rw [HEX.out]
            exact bodyPost_ret (v := okV ⟨kind, run isAl (s.data.toList.drop f), 0⟩ p (f + z)) (by simp [results, Tryd.results21, go_sem, okV]) rfl ⟨rfl, by first | exact (Only.refl _ _).alloc _ | exact only_four HO.out (Nat.le_refl _) _ _ _ _⟩
  · have hfs : f = s.size := by omega
    have HF := Lib.hid (show R = badV p 5 by rw [← HR.out, hfs, drop_end]; rfl)
    have d1 : ((f : Int) == (s.size : Int)) = true := by rw [beq_iff_eq]; omega
    have d2 : (f == s.size) = true := by rw [beq_iff_eq]; omega
    clear hfs hlt
    go_enter Tryd.func21, Tryd.ntmps21
    go_wp2_with (fail)
    rw [HF.out]
    exact bodyPost_ret (v := badV p 5) (by simp [results, Tryd.results21, go_sem, badV]) rfl ⟨rfl, by first | exact (Only.refl _ _).alloc _ | exact only_four HO.out (Nat.le_refl _) _ _ _ _⟩
end Go.Proofs.YtghofiehkdhbeaaDoor
