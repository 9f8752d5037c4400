/- The reference's Digits, walked. -/
import Derived.Test.YtgfmahfdkiblbaaDoorReadLaw
namespace Go.Proofs.YtgfmahfdkiblbaaDoor
open Go.RowKit Go.Kx
set_option maxRecDepth 20000

theorem valD_append (a b : List UInt8) : valD (a ++ b) = valF (valD a) b := by unfold valD valF; rw [List.foldl_append]
theorem valD_take_le (l : List UInt8) (k : Nat) : valD (l.take k) ≤ valD l := by
  have h := valD_append (l.take k) (l.drop k)
  rw [List.take_append_drop] at h
  rw [h]; exact valF_mono _ _
theorem digs_no1 {l : List UInt8} {c : UInt8} (hc : c ∈ l) (h : isDig c = false) : digs l = none := by
  unfold digs
  rw [if_neg]
  rintro ⟨h1, _⟩
  have := (canon_iff.1 h1).2.1 c hc
  rw [h] at this; cases this
theorem digs_no2 {l : List UInt8} {k : Nat} (h : maxI < valD (l.take k)) : digs l = none := by
  unfold digs
  rw [if_neg]
  rintro ⟨_, _, h1⟩
  have := valD_take_le l k
  omega
theorem digs_no3 {l : List UInt8} (h : 19 < l.length) : digs l = none := by
  unfold digs
  rw [if_neg]
  rintro ⟨_, h1, _⟩
  omega
theorem digs_no4 {l : List UInt8} (h : 1 < l.length) (h0 : l.head? = some 48) : digs l = none := by
  unfold digs
  rw [if_neg]
  rintro ⟨h1, _, _⟩
  exact (canon_iff.1 h1).2.2 h h0
theorem digs_yes {l : List UInt8} (h0 : l ≠ []) (h1 : ∀ c ∈ l, isDig c = true) (h2 : 1 < l.length → l.head? ≠ some 48) (h3 : l.length ≤ 19) (h4 : valD l ≤ maxI) : digs l = some (valD l) := by
  unfold digs
  rw [if_pos ⟨canon_iff.2 ⟨h0, h1, h2⟩, h3, h4⟩]

def digV (o : Option Nat) : Value := match o with | some n => .tuple #[.int .i64 n, .bool true] | none => .tuple #[.int .i64 0, .bool false]

theorem digits_empty (s : ByteArray) (h : s.size = 0) (w : World) : Calls Tryd.prog 49 #[.string s] w fun e w' => e = .returned (.tuple #[.int .i64 0, .bool false]) ∧ w' = w := by
  have H := Lib.hid h
  have g0 : ((s.size : Int) == 0) = true := by rw [h]; rfl
  clear h
  go_enter Tryd.func49, Tryd.ntmps49
  go_wp2_with (fail)
  go_ret2
  exact ⟨rfl, rfl⟩
theorem digits_long (s : ByteArray) (h : 19 < s.size) (hs : s.size ≤ 10000) (w : World) : Calls Tryd.prog 49 #[.string s] w fun e w' => e = .returned (.tuple #[.int .i64 0, .bool false]) ∧ w' = w := by
  have g0 : ((s.size : Int) == 0) = false := by rw [beq_eq_false_iff_ne]; omega
  have g1 : decide ((19 : Int) < s.size) = true := by simp; omega
  go_enter Tryd.func49, Tryd.ntmps49
  go_wp2_with (fail)
  go_ret2
  exact ⟨rfl, rfl⟩
theorem digits_nought (s : ByteArray) (h : 1 < s.size) (hs : s.size ≤ 19) (h0 : s[0] = 48) (w : World) : Calls Tryd.prog 49 #[.string s] w fun e w' => e = .returned (.tuple #[.int .i64 0, .bool false]) ∧ w' = w := by
  have g0 : ((s.size : Int) == 0) = false := by rw [beq_eq_false_iff_ne]; omega
  have g1 : decide ((19 : Int) < s.size) = false := by simp; omega
  have g2 : decide ((1 : Int) < s.size) = true := by simp; omega
  have g3 : ((s[0].toNat : Nat) : Int) = 48 := by rw [h0]; rfl
  have hp : 0 < s.size := by omega
  have H0 := Lib.hid h0
  clear h0
  go_enter Tryd.func49, Tryd.ntmps49
  go_wp2_with (fail)
  go_ret2
  exact ⟨rfl, rfl⟩

theorem head_at (s : ByteArray) (h : 0 < s.size) : s.data.toList.head? = some s[0] := by
  have h1 : 0 < s.data.toList.length := by simpa using h
  rw [List.head?_eq_getElem?, List.getElem?_eq_getElem h1]; rfl
theorem take_snoc_b (s : ByteArray) (k : Nat) (h : k < s.size) : s.data.toList.take (k + 1) = s.data.toList.take k ++ [s[k]] := by
  rw [List.take_succ_eq_append_getElem (by simpa using h)]; rfl
theorem mem_at (s : ByteArray) (k : Nat) (h : k < s.size) : s[k] ∈ s.data.toList := by
  have h1 : k < s.data.toList.length := by simpa using h
  exact List.getElem_mem h1

theorem dig_next {a b : List UInt8} {x : UInt8} (h : ∀ c ∈ a, isDig c = true) (e : b = a ++ [x]) (hx : isDig x = true) : ∀ c ∈ b, isDig c = true := by
  intro c hc
  rw [e] at hc
  rcases List.mem_append.1 hc with h1 | h1
  · exact h c h1
  · rw [List.mem_singleton.1 h1]; exact hx
set_option maxHeartbeats 2000000 in
theorem digits_loop (s : ByteArray) (hp : 0 < s.size) (hs : s.size ≤ 19) (h0 : ¬ (s[0] = 48 ∧ 1 < s.size)) (w : World) : Calls Tryd.prog 49 #[.string s] w fun e w' => e = .returned (digV (digs s.data.toList)) ∧ w' = w := by
  have g0 : ((s.size : Int) == 0) = false := by rw [beq_eq_false_iff_ne]; omega
  have g1 : decide ((19 : Int) < s.size) = false := by simp; omega
  have hne : s.data.toList ≠ [] := by
    intro e
    have h1 : s.data.toList.length = s.size := by simp
    rw [e] at h1; simp at h1; omega
  have hlen : s.data.toList.length = s.size := by simp
  have hhd : 1 < s.data.toList.length → s.data.toList.head? ≠ some 48 := by
    rw [hlen, head_at s hp]
    intro h1 h2
    exact h0 ⟨Option.some.inj h2, h1⟩
  have HNE := Lib.hid hne
  have HLEN := Lib.hid hlen
  have HHD := Lib.hid hhd
  have H0 := Lib.hid h0
  clear hne hlen hhd
  by_cases c0 : s[0] = 48
  · have g3 : ((s[0].toNat : Nat) : Int) = 48 := by rw [c0]; rfl
    have g2 : decide ((1 : Int) < s.size) = false := decide_eq_false (fun h => H0.out ⟨c0, by omega⟩)
    clear h0 c0
    go_enter Tryd.func49, Tryd.ntmps49
    go_wp2_with (fail)
    clear g3
    go_loop [4, 5] (fun n i => ∃ k : Nat, k ≤ s.size ∧ i = .int .i64 k ∧ n = .int .i64 (valD (s.data.toList.take k)) ∧ Hid ((∀ c ∈ s.data.toList.take k, isDig c = true) ∧ valD (s.data.toList.take k) ≤ maxI)) (fun _ i => s.size - (intOf i).toNat)
    case atStart => exact ⟨0, Nat.zero_le _, rfl, by simp [valD, valF], Lib.hid ⟨fun c hc => by simp at hc, by simp [valD, valF, maxI]⟩⟩
    case round =>
      obtain ⟨k, hk, rfl, rfl, hh⟩ := hrel
      by_cases hlt : k < s.size
      · have hsn := valD_snoc (s.data.toList.take k) s[k]
        rw [← take_snoc_b s k hlt] at hsn
        have HS := Lib.hid hsn
        have HM := Lib.hid (mem_at s k hlt)
        have HTK := Lib.hid (take_snoc_b s k hlt)
        have hv : valD (s.data.toList.take k) ≤ 9223372036854775807 := hh.out.2
        generalize hV : valD (s.data.toList.take k) = v at hsn hv HS
        have HV := Lib.hid hV
        clear hsn hV
        by_cases d1 : ((s[k].toNat : Nat) : Int) < 48
        · go_wp2_with (fail)
          go_ret2
          refine ⟨?_, rfl⟩
          rw [digs_no1 HM.out (by unfold isDig; simp; omega)]; rfl
        · by_cases d2 : (57 : Int) < ((s[k].toNat : Nat) : Int)
          · go_wp2_with (fail)
            go_ret2
            refine ⟨?_, rfl⟩
            rw [digs_no1 HM.out (by unfold isDig; simp; omega)]; rfl
          · have hdig : isDig s[k] = true := isDig_iff.2 (by omega)
            have HD := Lib.hid hdig
            clear hdig
            by_cases d3 : (922337203685477580 : Int) < (v : Int)
            · go_wp2_with (fail)
              go_ret2
              refine ⟨?_, rfl⟩
              rw [digs_no2 (k := k + 1) (by rw [HS.out]; unfold maxI; omega)]; rfl
            · by_cases d4 : (v : Int) = 922337203685477580 ∧ (55 : Int) < ((s[k].toNat : Nat) : Int)
              · obtain ⟨d4, d5⟩ := d4
                have d6 : ((v : Int) == 922337203685477580) = true := by simp; omega
                have hv9 : v = 922337203685477580 := by omega
                have HV9 := Lib.hid hv9
                clear d4 hv9
                go_wp2_with (fail)
                go_ret2
                refine ⟨?_, rfl⟩
                rw [digs_no2 (k := k + 1) (by rw [HS.out]; have := HV9.out; unfold maxI; omega)]; rfl
              · have hle : v * 10 + (s[k].toNat - 48) ≤ maxI := by
                  unfold maxI
                  by_cases e : v = 922337203685477580
                  · have : ¬ (55 : Int) < ((s[k].toNat : Nat) : Int) := fun h => d4 ⟨by omega, h⟩
                    omega
                  · omega
                have HLE := Lib.hid hle
                clear hle
                have hw : IntKind.u8.wrap (((s[k].toNat : Nat) : Int) - 48) = ((s[k].toNat : Nat) : Int) - 48 := by rw [IntKind.wrap_u8]; omega
                by_cases d5 : (v : Int) = 922337203685477580
                · have d6 : ((v : Int) == 922337203685477580) = true := by simp; omega
                  have d7 : ¬ (55 : Int) < ((s[k].toNat : Nat) : Int) := fun h => d4 ⟨d5, h⟩
                  clear d4 d5
                  go_wp2_with (fail)
                  go_round
                  case rel => exact ⟨k + 1, by omega, by go_num, by rw [HS.out]; congr 1; omega, Lib.hid ⟨dig_next hh.out.1 HTK.out HD.out, by rw [HS.out]; exact HLE.out⟩⟩
                  case measure => simp [intOf]; omega
                · have d6 : ((v : Int) == 922337203685477580) = false := by simp; omega
                  have hv2 : (v : Int) ≤ 922337203685477579 := by omega
                  clear d4 d5
                  go_wp2_with (fail)
                  go_round
                  case rel => exact ⟨k + 1, by omega, by go_num, by rw [HS.out]; congr 1; omega, Lib.hid ⟨dig_next hh.out.1 HTK.out HD.out, by rw [HS.out]; exact HLE.out⟩⟩
                  case measure => simp [intOf]; omega
      · obtain rfl : k = s.size := by omega
        have e : s.data.toList.take s.size = s.data.toList := by rw [← HLEN.out, List.take_length]
        have hh2 := hh.out
        rw [e] at hh2
        have DY := Lib.hid (digs_yes HNE.out hh2.1 HHD.out (by rw [HLEN.out]; exact hs) hh2.2)
        rw [← e] at DY
        have DZ := Lib.hid (show Ending.returned (.tuple #[.int .i64 (valD (s.data.toList.take s.size)), .bool true]) = .returned (digV (digs s.data.toList)) by rw [e]; rw [e] at DY; rw [DY.out]; rfl)
        clear hh2 DY e
        go_wp2_with (fail)
        go_ret2
        exact ⟨DZ.out, rfl⟩
  · have g3 : ¬ ((s[0].toNat : Nat) : Int) = 48 := fun h => c0 (UInt8.toNat_inj.1 (by have e : (48 : UInt8).toNat = 48 := rfl; omega))
    clear h0 c0
    go_enter Tryd.func49, Tryd.ntmps49
    go_wp2_with (fail)
    clear g3
    go_loop [4, 5] (fun n i => ∃ k : Nat, k ≤ s.size ∧ i = .int .i64 k ∧ n = .int .i64 (valD (s.data.toList.take k)) ∧ Hid ((∀ c ∈ s.data.toList.take k, isDig c = true) ∧ valD (s.data.toList.take k) ≤ maxI)) (fun _ i => s.size - (intOf i).toNat)
    case atStart => exact ⟨0, Nat.zero_le _, rfl, by simp [valD, valF], Lib.hid ⟨fun c hc => by simp at hc, by simp [valD, valF, maxI]⟩⟩
    case round =>
      obtain ⟨k, hk, rfl, rfl, hh⟩ := hrel
      by_cases hlt : k < s.size
      · have hsn := valD_snoc (s.data.toList.take k) s[k]
        rw [← take_snoc_b s k hlt] at hsn
        have HS := Lib.hid hsn
        have HM := Lib.hid (mem_at s k hlt)
        have HTK := Lib.hid (take_snoc_b s k hlt)
        have hv : valD (s.data.toList.take k) ≤ 9223372036854775807 := hh.out.2
        generalize hV : valD (s.data.toList.take k) = v at hsn hv HS
        have HV := Lib.hid hV
        clear hsn hV
        by_cases d1 : ((s[k].toNat : Nat) : Int) < 48
        · go_wp2_with (fail)
          go_ret2
          refine ⟨?_, rfl⟩
          rw [digs_no1 HM.out (by unfold isDig; simp; omega)]; rfl
        · by_cases d2 : (57 : Int) < ((s[k].toNat : Nat) : Int)
          · go_wp2_with (fail)
            go_ret2
            refine ⟨?_, rfl⟩
            rw [digs_no1 HM.out (by unfold isDig; simp; omega)]; rfl
          · have hdig : isDig s[k] = true := isDig_iff.2 (by omega)
            have HD := Lib.hid hdig
            clear hdig
            by_cases d3 : (922337203685477580 : Int) < (v : Int)
            · go_wp2_with (fail)
              go_ret2
              refine ⟨?_, rfl⟩
              rw [digs_no2 (k := k + 1) (by rw [HS.out]; unfold maxI; omega)]; rfl
            · by_cases d4 : (v : Int) = 922337203685477580 ∧ (55 : Int) < ((s[k].toNat : Nat) : Int)
              · obtain ⟨d4, d5⟩ := d4
                have d6 : ((v : Int) == 922337203685477580) = true := by simp; omega
                have hv9 : v = 922337203685477580 := by omega
                have HV9 := Lib.hid hv9
                clear d4 hv9
                go_wp2_with (fail)
                go_ret2
                refine ⟨?_, rfl⟩
                rw [digs_no2 (k := k + 1) (by rw [HS.out]; have := HV9.out; unfold maxI; omega)]; rfl
              · have hle : v * 10 + (s[k].toNat - 48) ≤ maxI := by
                  unfold maxI
                  by_cases e : v = 922337203685477580
                  · have : ¬ (55 : Int) < ((s[k].toNat : Nat) : Int) := fun h => d4 ⟨by omega, h⟩
                    omega
                  · omega
                have HLE := Lib.hid hle
                clear hle
                have hw : IntKind.u8.wrap (((s[k].toNat : Nat) : Int) - 48) = ((s[k].toNat : Nat) : Int) - 48 := by rw [IntKind.wrap_u8]; omega
                by_cases d5 : (v : Int) = 922337203685477580
                · have d6 : ((v : Int) == 922337203685477580) = true := by simp; omega
                  have d7 : ¬ (55 : Int) < ((s[k].toNat : Nat) : Int) := fun h => d4 ⟨d5, h⟩
                  clear d4 d5
                  go_wp2_with (fail)
                  go_round
                  case rel => exact ⟨k + 1, by omega, by go_num, by rw [HS.out]; congr 1; omega, Lib.hid ⟨dig_next hh.out.1 HTK.out HD.out, by rw [HS.out]; exact HLE.out⟩⟩
                  case measure => simp [intOf]; omega
                · have d6 : ((v : Int) == 922337203685477580) = false := by simp; omega
                  have hv2 : (v : Int) ≤ 922337203685477579 := by omega
                  clear d4 d5
                  go_wp2_with (fail)
                  go_round
                  case rel => exact ⟨k + 1, by omega, by go_num, by rw [HS.out]; congr 1; omega, Lib.hid ⟨dig_next hh.out.1 HTK.out HD.out, by rw [HS.out]; exact HLE.out⟩⟩
                  case measure => simp [intOf]; omega
      · obtain rfl : k = s.size := by omega
        have e : s.data.toList.take s.size = s.data.toList := by rw [← HLEN.out, List.take_length]
        have hh2 := hh.out
        rw [e] at hh2
        have DY := Lib.hid (digs_yes HNE.out hh2.1 HHD.out (by rw [HLEN.out]; exact hs) hh2.2)
        rw [← e] at DY
        have DZ := Lib.hid (show Ending.returned (.tuple #[.int .i64 (valD (s.data.toList.take s.size)), .bool true]) = .returned (digV (digs s.data.toList)) by rw [e]; rw [e] at DY; rw [DY.out]; rfl)
        clear hh2 DY e
        go_wp2_with (fail)
        go_ret2
        exact ⟨DZ.out, rfl⟩

theorem digits_any (l : List UInt8) (hl : l.length ≤ 10000) (w : World) : Calls Tryd.prog 49 #[.string ⟨l.toArray⟩] w fun e w' => e = .returned (digV (digs l)) ∧ w' = w := by
  have hsz : (⟨l.toArray⟩ : ByteArray).size = l.length := by show l.toArray.size = _; simp
  have hll : (⟨l.toArray⟩ : ByteArray).data.toList = l := by simp
  have he : l.head? = (⟨l.toArray⟩ : ByteArray).data.toList.head? := by rw [hll]
  by_cases h0 : l = []
  · subst h0
    exact digits_empty _ rfl w
  · have hp : 0 < l.length := List.length_pos_iff.2 h0
    by_cases h1 : 19 < l.length
    · rw [digs_no3 h1]
      exact digits_long _ (by omega) (by omega) w
    · have hp' : 0 < (⟨l.toArray⟩ : ByteArray).size := by omega
      by_cases h2 : (⟨l.toArray⟩ : ByteArray)[0] = 48 ∧ 1 < (⟨l.toArray⟩ : ByteArray).size
      · rw [digs_no4 (by omega) (by rw [he, head_at _ hp', h2.1])]
        exact digits_nought _ h2.2 (by omega) h2.1 w
      · have := digits_loop ⟨l.toArray⟩ hp' (by omega) h2 w
        rwa [hll] at this
end Go.Proofs.YtgfmahfdkiblbaaDoor
