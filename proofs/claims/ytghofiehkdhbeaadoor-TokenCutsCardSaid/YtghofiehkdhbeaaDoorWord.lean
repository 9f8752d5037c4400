/- word: of a text. -/
import Derived.Test.YtghofiehkdhbeaaDoorMarks
namespace Go.Proofs.YtghofiehkdhbeaaDoor
open Go.RowKit Go.Kx Go.Tok
set_option maxRecDepth 100000

/-- what the library's and the program's tables hold -/
structure Tabs (w : World) : Prop where
  marks : MarksIs w
  range : RangeV w
theorem Tabs.only {S : List Nat} {w w' : World} (h : Tabs w) (o : Only S w w') (h0 : 0 ∉ S) (h3 : 3 ∉ S) : Tabs w' := ⟨h.marks.only o h0, h.range.only o h3⟩
theorem Tabs.keep {w w' : World} (h : Tabs w) (o : Only [] w w') : Tabs w' := ⟨h.marks.keep o, h.range.keep o⟩
theorem wdV_tuple (p : Nat) (x : Wd) : ∃ k l n q e, wdV p x = .tuple #[.agg #[.int .i64 k, .string l, .int .i64 n, .int .i64 p], .int .i64 q, .int .i64 e] := by
  cases x <;> exact ⟨_, _, _, _, _, rfl⟩
theorem ext_mark {s : ByteArray} {p m : Nat} : s.extract p (p + m) = ⟨((s.data.toList.drop p).take m).toArray⟩ := by
  apply ByteArray.ext
  apply Array.toList_inj.1
  simp
  try (congr 1; omega)
set_option maxHeartbeats 4000000 in
theorem word_any (s : ByteArray) (hs : s.size ≤ 100000000) (p : Nat) (hp : p ≤ s.size) {w : World} (hT : Tabs w) :
    Calls Tryd.prog 18 #[.string s, .int .i64 p] w fun e w' => e = .returned (wdV p (wordW (s.data.toList.drop p))) ∧ Only [] w w' := by
  have o0 : Only [] w (w.alloc (.cells #[.int .i64 0, .string ⟨#[]⟩, .int .i64 0, .int .i64 0] 28)) := (Only.refl _ _).alloc _
  have HB := Lib.hid (Blk.new w 28 #[.int .i64 0, .string ⟨#[]⟩, .int .i64 0, .int .i64 0])
  have HT := Lib.hid (hT.keep o0)
  have HO := Lib.hid o0
  clear o0 hT
  obtain ⟨R, hR⟩ : ∃ R, wdV p (wordW (s.data.toList.drop p)) = R := ⟨_, rfl⟩
  rw [hR]
  have HR := Lib.hid hR
  clear hR
  by_cases hlt : p < s.size
  · have d1 : ((p : Int) == (s.size : Int)) = false := by rw [beq_eq_false_iff_ne]; omega
    have d2 : (p == s.size) = false := by rw [beq_eq_false_iff_ne]; omega
    have hdc := drop_cons hlt
    cases hl : isLet s[p] with
    | true =>
      have HW := Lib.hid (show wordW (s.data.toList.drop p) = nameW 0 0 (s.data.toList.drop p) by rw [hdc]; simp only [wordW]; rw [if_pos hl])
      have HL := Lib.hid hl
      clear hl hdc
      go_enter Tryd.func18, Tryd.ntmps18
      go_wp2_with (fail)
      refine (letter_any _ _).mono ?_
      rintro e w1 ⟨rfl, rfl⟩
      rw [HL.out]
      obtain ⟨k, l, n, q, e, HE⟩ := wdV_tuple p (nameW 0 0 (s.data.toList.drop p))
      have HEE := Lib.hid HE
      have e0 : p - p = 0 := Nat.sub_self p
      have HC := Lib.hid (fun w => name_any s (by omega) 0 p p hp (Nat.le_refl p) w)
      rw [e0] at HC
      clear HE e0
      go_wp2_with (fail)
      refine (HC.out _).mono ?_
      rintro e' w2 ⟨rfl, o⟩
      rw [HEE.out]
      have HB2 := Lib.hid (o.blk HB.out (by simp))
      have HO2 := Lib.hid (HO.out.trans o (by simp))
      obtain ⟨b0, b1, b2, b3, bl⟩ := HB2.out.facts4
      have f0 := HB2.out.frozen 0
      have f1 := HB2.out.frozen 1
      have f2 := HB2.out.frozen 2
      have f3 := HB2.out.frozen 3
      clear o
      go_wp2_with (fail)
      rw [← HR.out, HW.out, HEE.out]
      exact bodyPost_ret (v := .tuple #[.agg #[.int .i64 k, .string l, .int .i64 n, .int .i64 p], .int .i64 q, .int .i64 e]) (by simp [results, Tryd.results18, go_sem, b0, b1, b2, b3]) rfl ⟨rfl, only_four HO2.out (Nat.le_refl _) _ _ _ _⟩
    | false =>
      have HL := Lib.hid hl
      by_cases h39 : s[p].toNat = 39
      · have q0 : ((s[p].toNat : Nat) : Int) = 39 := by omega
        have HW := Lib.hid (show wordW (s.data.toList.drop p) = nameW 2 1 (s.data.toList.drop (p + 1)) by rw [hdc]; simp only [wordW]; rw [if_neg (by rw [hl]; decide), if_pos h39])
        have HL9 := Lib.hid (show ∀ w, Calls Tryd.prog 20 #[.int .u8 39] w fun e w' => e = .returned (.bool false) ∧ w' = w from fun w => letter_any 39 w)
        clear hl hdc h39
        go_enter Tryd.func18, Tryd.ntmps18
        go_wp2_with (fail)
        refine (HL9.out _).mono ?_
        rintro e w1 ⟨rfl, rfl⟩
        go_wp2_with (fail)
        obtain ⟨k, l, n, q, e, HE⟩ := wdV_tuple p (nameW 2 1 (s.data.toList.drop (p + 1)))
        have HEE := Lib.hid HE
        have HC := Lib.hid (show ∀ w, Calls Tryd.prog 21 #[.string s, .int .i64 2, .int .i64 p, .int .i64 ((p : Int) + 1)] w fun e w' => e = .returned (wdV p (nameW 2 1 (s.data.toList.drop (p + 1)))) ∧ Only [] w w' from fun w => by
          have h := name_any s (by omega) 2 p (p + 1) hlt (Nat.le_succ p) w
          rw [show p + 1 - p = 1 by omega, show ((p + 1 : Nat) : Int) = (p : Int) + 1 by omega] at h
          exact h)
        clear HE
        go_wp2_with (fail)
        refine (HC.out _).mono ?_
        rintro e' w2 ⟨rfl, o⟩
        rw [HEE.out]
        have HB2 := Lib.hid (o.blk HB.out (by simp))
        have HO2 := Lib.hid (HO.out.trans o (by simp))
        obtain ⟨b0, b1, b2, b3, bl⟩ := HB2.out.facts4
        have f0 := HB2.out.frozen 0
        have f1 := HB2.out.frozen 1
        have f2 := HB2.out.frozen 2
        have f3 := HB2.out.frozen 3
        clear o
        go_wp2_with (fail)
        rw [← HR.out, HW.out, HEE.out]
        exact bodyPost_ret (v := .tuple #[.agg #[.int .i64 k, .string l, .int .i64 n, .int .i64 p], .int .i64 q, .int .i64 e]) (by simp [results, Tryd.results18, go_sem, b0, b1, b2, b3]) rfl ⟨rfl, only_four HO2.out (Nat.le_refl _) _ _ _ _⟩
      · have q0 : ¬ ((s[p].toNat : Nat) : Int) = 39 := by omega
        cases hd : isDig s[p] with
        | true =>
          have HW := Lib.hid (show wordW (s.data.toList.drop p) = numW (s.data.toList.drop p) by rw [hdc]; simp only [wordW]; rw [if_neg (by rw [hl]; decide), if_neg h39, if_pos hd])
          have HD := Lib.hid hd
          clear hl hdc h39 hd
          go_enter Tryd.func18, Tryd.ntmps18
          go_wp2_with (fail)
          refine (letter_any _ _).mono ?_
          rintro e w1 ⟨rfl, rfl⟩
          rw [HL.out]
          go_wp2_with (fail)
          refine (digit_any _ _).mono ?_
          rintro e w1 ⟨rfl, rfl⟩
          rw [HD.out]
          obtain ⟨k, l, n, q, e, HE⟩ := wdV_tuple p (numW (s.data.toList.drop p))
          have HEE := Lib.hid HE
          have HC := Lib.hid (fun w (h : RangeV w) => number_any s hs p hlt HD.out h)
          clear HE
          go_wp2_with (fail)
          refine (HC.out _ HT.out.range).mono ?_
          rintro e' w2 ⟨rfl, o⟩
          rw [HEE.out]
          have HB2 := Lib.hid (o.blk HB.out (by simp))
          have HO2 := Lib.hid (HO.out.trans o (by simp))
          obtain ⟨b0, b1, b2, b3, bl⟩ := HB2.out.facts4
          have f0 := HB2.out.frozen 0
          have f1 := HB2.out.frozen 1
          have f2 := HB2.out.frozen 2
          have f3 := HB2.out.frozen 3
          clear o
          go_wp2_with (fail)
          rw [← HR.out, HW.out, HEE.out]
          exact bodyPost_ret (v := .tuple #[.agg #[.int .i64 k, .string l, .int .i64 n, .int .i64 p], .int .i64 q, .int .i64 e]) (by simp [results, Tryd.results18, go_sem, b0, b1, b2, b3]) rfl ⟨rfl, only_four HO2.out (Nat.le_refl _) _ _ _ _⟩
        | false =>
          have HW := Lib.hid (show wordW (s.data.toList.drop p) = markW (s.data.toList.drop p) by rw [hdc]; simp only [wordW]; rw [if_neg (by rw [hl]; decide), if_neg h39, if_neg (by rw [hd]; decide)])
          have HD := Lib.hid hd
          clear hl hdc h39 hd
          obtain ⟨t, fr, hg⟩ := HT.out.marks
          have hu : Tryd.prog.underlying 49 = some (.array 17 9) := by kernel_rfl
          have hix := Lib.hid mark_index
          obtain ⟨L, hL⟩ : ∃ L, s.data.toList.drop p = L := ⟨_, rfl⟩
          have HPX := Lib.hid (show ∀ m : List UInt8, ∀ w : World, Calls Tryd.prog 24 #[.string (s.extract p s.size), .string ⟨m.toArray⟩] w fun e w' => e = .returned (.bool (m.isPrefixOf L)) ∧ w' = w from fun m w => by
            have := Tryd.strings_HasPrefix (s.extract p s.size) ⟨m.toArray⟩ w
            rw [ext_drop, hL] at this
            exact this)
          have hLl : L.length = s.size - p := by rw [← hL]; simp
          have HLL := Lib.hid hLl
          have HEQ := Lib.hid hL
          rw [hL] at HW
          clear hL hLl
          go_enter Tryd.func18, Tryd.ntmps18
          go_wp2_with (fail)
          refine (letter_any _ _).mono ?_
          rintro e w1 ⟨rfl, rfl⟩
          rw [HL.out]
          go_wp2_with (fail)
          refine (digit_any _ _).mono ?_
          rintro e w1 ⟨rfl, rfl⟩
          rw [HD.out]
          go_wp2_with (refine wpList_load_row rfl 49 _ rfl 0 rfl t marksV fr _ hg hu rfl (by kernel_rfl) ?_)
          clear hg
          go_loop [53] (fun i => ∃ k : Nat, i = .int .i64 k ∧ k ≤ 17 ∧ Hid (noMark k L)) (fun i => 17 - (intOf i).toNat)
          case atStart => exact ⟨0, rfl, by omega, Lib.hid (fun m hm => by simp at hm)⟩
          case round =>
            obtain ⟨k, rfl, hk, HN⟩ := hrel
            by_cases hlt2 : k < 17
            · have hi : ∀ w, (Instr.index 49 (.agg marksV) (.int .i64 (k : Int))).run Tryd.prog w = .ok (.string ⟨(markAt k).toArray⟩) w := hix.out k hlt2
              cases hc : (markAt k).isPrefixOf L with
              | true =>
                obtain ⟨m1, m2, m3⟩ := mark_hit hlt2 HN.out hc
                have HC := Lib.hid hc
                have hml := markLen_le L
                have HM1 := Lib.hid (show wordW L = .ok ⟨3, markAt k, 0⟩ (markAt k).length by rw [HW.out]; unfold markW; rw [if_neg m1, m2, m3])
                have hmb : (markAt k).length ≤ 100000000 := by rw [← m3]; have := HLL.out; omega
                clear hc m1 m2 m3 hml
                generalize hmk : markAt k = m at *
                clear hmk
                go_wp2_with (fail)
                refine (HPX.out _ _).mono ?_
                rintro e w1 ⟨rfl, rfl⟩
                rw [HC.out]
                go_wp2_with (fail)
                rw [← HR.out, HEQ.out, HM1.out]
                exact bodyPost_ret (v := okV ⟨3, m, 0⟩ p (p + m.length)) (by simp [results, Tryd.results18, go_sem, okV]) rfl ⟨rfl, by first | exact (Only.refl _ _).alloc _ | exact only_four HO.out (Nat.le_refl _) _ _ _ _⟩
              | false =>
                have HC := Lib.hid hc
                have HS := Lib.hid (noMark_succ hlt2 HN.out hc)
                clear hc
                go_wp2_with (fail)
                refine (HPX.out _ _).mono ?_
                rintro e w1 ⟨rfl, rfl⟩
                rw [HC.out]
                go_wp2_with (fail)
                go_round
                case rel => exact ⟨k + 1, by go_num, by omega, HS⟩
                case measure => simp [intOf]; omega
            · obtain rfl : k = 17 := by omega
              have HM1 := Lib.hid (show wordW L = .bad 5 by rw [HW.out]; unfold markW; rw [if_pos (noMark_all HN.out)])
              go_wp2_with (fail)
              rw [← HR.out, HEQ.out, HM1.out]
              exact bodyPost_ret (v := badV p 5) (by simp [results, Tryd.results18, go_sem, badV]) rfl ⟨rfl, by first | exact (Only.refl _ _).alloc _ | exact only_four HO.out (Nat.le_refl _) _ _ _ _⟩
  · have hps : p = s.size := by omega
    have HF := Lib.hid (show R = okV ⟨4, [], 0⟩ p p by rw [← HR.out, hps, drop_end]; rfl)
    have d1 : ((p : Int) == (s.size : Int)) = true := by rw [beq_iff_eq]; omega
    have d2 : (p == s.size) = true := by rw [beq_iff_eq]; omega
    clear hps hlt
    go_enter Tryd.func18, Tryd.ntmps18
    go_wp2_with (fail)
    rw [HF.out]
    exact bodyPost_ret (v := okV ⟨4, [], 0⟩ p p) (by simp [results, Tryd.results18, go_sem, okV]) rfl ⟨rfl, by first | exact (Only.refl _ _).alloc _ | exact only_four HO.out (Nat.le_refl _) _ _ _ _⟩
end Go.Proofs.YtghofiehkdhbeaaDoor
