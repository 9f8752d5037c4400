/- settle. -/
import Derived.Test.YtodiemichniehaaSwap
namespace Go.Proofs.Ytodiemichniehaa
open Go.RowKit Go.Kx Go.Maps
set_option maxRecDepth 20000

theorem gt_at {L : List Ent} {i : Nat} (h : i < L.length) : L[i]? = some (gt_ L i) := by unfold gt_; rw [List.getElem?_eq_getElem h]; rfl
theorem toNat_nat (n : Nat) : ((n : Int)).toNat = n := by omega

theorem index0 (x y : Value) (W : World) : (Instr.index 71 (.agg #[x, y]) (.int .i64 0)).run Try.prog W = .ok x W := by kernel_rfl
theorem index1 (x y : Value) (W : World) : (Instr.index 71 (.agg #[x, y]) (.int .i64 1)).run Try.prog W = .ok y W := by kernel_rfl
set_option maxHeartbeats 4000000 in
theorem settle_any {B : Nat} {w : World} {g : Nat} {M : Option Nat} {L : List Ent} {p c : Nat} (hH : HB B w g M L (some ⟨p, 0, none⟩) c) {i : Nat} (hi : i < L.length) (hl : L.length ≤ 1048576) (hR : Rises L i) :
    Calls Try.prog 29 #[.pointer (some ⟨g, 0, none⟩), .int .i64 i] w fun e w' => e = .returned (.tuple #[]) ∧ (∃ L', HB B w' g M L' (some ⟨p, 0, none⟩) c ∧ L'.Perm L ∧ Heaped L') ∧ Only (p :: M.toList) w w' := by
  have HH := Lib.hid hH
  have HR := Lib.hid hR
  have hI0 := index0
  have hI1 := index1
  clear hH hR
  go_enter Try.func29, Try.ntmps29
  go_wp2_with (fail)
  go_loopw [1] (fun v wr => ∃ (k : Nat) (L' : List Ent), v = .int .i64 k ∧ k < L'.length ∧ HB B wr g M L' (some ⟨p, 0, none⟩) c ∧ Rises L' k ∧ L'.Perm L ∧ Only (p :: M.toList) w wr) (fun v _ => (intOf v).toNat)
  case atStart => exact ⟨i, L, rfl, hi, HH.out, HR.out, .refl _, Only.refl _ _⟩
  case round =>
    clear HH HR
    obtain ⟨k, L', rfl, hk, hH, hR, hp, hO⟩ := hrel
    have HH := Lib.hid hH
    have HR := Lib.hid hR
    have HP := Lib.hid hp
    have HO := Lib.hid hO
    have hl' : L'.length ≤ 1048576 := by rw [hp.length_eq]; exact hl
    clear hH hR hp hO
    by_cases h0 : k = 0
    · have HS := Lib.hid (HR.out.stay (.inl h0))
      have k0 : ¬ (0 : Int) < (k : Int) := by omega
      have k1 : decide ((0 : Int) < (k : Int)) = false := by simp; omega
      clear HR h0
      go_wp2_with (fail)
      go_loopw [1] (fun v ws => ∃ (m : Nat) (L2 : List Ent), v = .int .i64 m ∧ m < L2.length ∧ HB B ws g M L2 (some ⟨p, 0, none⟩) c ∧ Sinks L2 m ∧ L2.Perm L ∧ Only (p :: M.toList) w ws) (fun v _ => 1048576 - (intOf v).toNat)
      case atStart => exact ⟨k, L', rfl, hk, HH.out, HS.out, HP.out, HO.out⟩
      case round =>
        clear HH HS HP HO hl' hk
        obtain ⟨m, L2, rfl, hm, hH, hS, hp, hO⟩ := hrel
        have HH := Lib.hid hH
        have HS := Lib.hid hS
        have HP := Lib.hid hp
        have HO := Lib.hid hO
        have hl2 : L2.length ≤ 1048576 := by rw [hp.length_eq]; exact hl
        clear hH hS hp hO
        go_wp2_with (fail)
        go_loopw [4, 34] (fun v u ws => ∃ (s n : Nat), v = .int .i64 s ∧ u = .int .i64 n ∧ n ≤ 2 ∧ s < L2.length ∧ (s = m ∨ (s = 2 * m + 1 ∧ 1 ≤ n ∨ s = 2 * m + 2 ∧ 2 ≤ n) ∧ elt (gt_ L2 s) (gt_ L2 m)) ∧ (∀ d, 2 * m + 1 ≤ d → d < 2 * m + 1 + n → d < L2.length → ¬ elt (gt_ L2 d) (gt_ L2 s)) ∧ HB B ws g M L2 (some ⟨p, 0, none⟩) c ∧ Only (p :: M.toList) w ws) (fun _ u _ => 2 - (intOf u).toNat)
        case atStart => exact ⟨m, 0, rfl, rfl, by omega, hm, .inl rfl, fun d h1 h2 => by omega, HH.out, HO.out⟩
        case round =>
          clear HH HO
          obtain ⟨s, n, rfl, rfl, hn, hs, hsm, hmin, hH, hO⟩ := hrel
          have HH := Lib.hid hH
          have HO := Lib.hid hO
          have HN := Lib.hid hmin
          have HM := Lib.hid hsm
          clear hH hO hmin hsm
          rcases (show n = 0 ∨ n = 1 ∨ n = 2 by omega) with rfl | rfl | rfl
          · by_cases hd : 2 * m + 1 < L2.length
            · have hdz : 2 * (m : Int) + 1 < (L2.length : Int) := by omega
              cases hx : decide (elt (gt_ L2 (2 * m + 1)) (gt_ L2 s)) with
              | true =>
                have hle := less_any HH.out (gt_at hd) (gt_at hs) hx
                rw [show ((2 * m + 1 : Nat) : Int) = 2 * (m : Int) + 1 from by omega] at hle
                obtain ⟨g0, g1, g2, gl⟩ := HH.out.blk.facts3
                go_wp2_with (fail)
                refine hle.mono ?_
                clear hle
                rintro e w1 ⟨rfl, o1⟩
                have h1 := HH.out.keep o1
                have HO1 := Lib.hid (HO.out.trans o1 (by simp))
                clear HH HO o1 g0 g1 g2 gl
                have HH := Lib.hid h1
                clear h1
                go_wp2_with (fail)
                go_roundw
                case rel =>
                  have hx' : elt (gt_ L2 (2 * m + 1)) (gt_ L2 s) := by simpa using hx
                  refine ⟨2 * m + 1, 1, by go_num, by go_num, by omega, hd, .inr ⟨by omega, ?_⟩, ?_, HH.out, HO1.out⟩
                  · rcases HM.out with h | ⟨_, h⟩
                    · rw [h] at hx'; exact hx'
                    · exact elt_trans hx' h
                  · intro d h1 h2 h3 h4
                    by_cases hde : d = 2 * m + 1
                    · subst hde; exact elt_irrefl _ h4
                    · exact HN.out d h1 (by omega) h3 (elt_trans h4 hx')
                case measure => simp [intOf]
              | false =>
                have hle := less_any HH.out (gt_at hd) (gt_at hs) hx
                rw [show ((2 * m + 1 : Nat) : Int) = 2 * (m : Int) + 1 from by omega] at hle
                obtain ⟨g0, g1, g2, gl⟩ := HH.out.blk.facts3
                go_wp2_with (fail)
                refine hle.mono ?_
                clear hle
                rintro e w1 ⟨rfl, o1⟩
                have h1 := HH.out.keep o1
                have HO1 := Lib.hid (HO.out.trans o1 (by simp))
                clear HH HO o1 g0 g1 g2 gl
                have HH := Lib.hid h1
                clear h1
                go_wp2_with (fail)
                go_roundw
                case rel =>
                  have hx' : ¬ elt (gt_ L2 (2 * m + 1)) (gt_ L2 s) := by simpa using hx
                  refine ⟨s, 1, by go_num, by go_num, by omega, hs, ?_, ?_, HH.out, HO1.out⟩
                  · rcases HM.out with h | ⟨h, h'⟩
                    · exact .inl h
                    · exact .inr ⟨by omega, h'⟩
                  · intro d h1 h2 h3
                    by_cases hde : d = 2 * m + 1
                    · subst hde; exact hx'
                    · exact HN.out d h1 (by omega) h3
                case measure => simp [intOf]
            · have hdz : decide (2 * (m : Int) + 1 < (L2.length : Int)) = false := by simp; omega
              obtain ⟨g0, g1, g2, gl⟩ := HH.out.blk.facts3
              go_wp2_with (fail)
              go_roundw
              case rel =>
                refine ⟨s, 1, by go_num, by go_num, by omega, hs, ?_, ?_, HH.out, HO.out⟩
                · rcases HM.out with h | ⟨h, h'⟩
                  · exact .inl h
                  · exact .inr ⟨by omega, h'⟩
                · intro d h1 h2 h3
                  exact HN.out d h1 (by omega) h3
              case measure => simp [intOf]
          · by_cases hd : 2 * m + 2 < L2.length
            · have hdz : 2 * (m : Int) + 2 < (L2.length : Int) := by omega
              cases hx : decide (elt (gt_ L2 (2 * m + 2)) (gt_ L2 s)) with
              | true =>
                have hle := less_any HH.out (gt_at hd) (gt_at hs) hx
                rw [show ((2 * m + 2 : Nat) : Int) = 2 * (m : Int) + 2 from by omega] at hle
                obtain ⟨g0, g1, g2, gl⟩ := HH.out.blk.facts3
                go_wp2_with (fail)
                refine hle.mono ?_
                clear hle
                rintro e w1 ⟨rfl, o1⟩
                have h1 := HH.out.keep o1
                have HO1 := Lib.hid (HO.out.trans o1 (by simp))
                clear HH HO o1 g0 g1 g2 gl
                have HH := Lib.hid h1
                clear h1
                go_wp2_with (fail)
                go_roundw
                case rel =>
                  have hx' : elt (gt_ L2 (2 * m + 2)) (gt_ L2 s) := by simpa using hx
                  refine ⟨2 * m + 2, 2, by go_num, by go_num, by omega, hd, .inr ⟨by omega, ?_⟩, ?_, HH.out, HO1.out⟩
                  · rcases HM.out with h | ⟨_, h⟩
                    · rw [h] at hx'; exact hx'
                    · exact elt_trans hx' h
                  · intro d h1 h2 h3 h4
                    by_cases hde : d = 2 * m + 2
                    · subst hde; exact elt_irrefl _ h4
                    · exact HN.out d h1 (by omega) h3 (elt_trans h4 hx')
                case measure => simp [intOf]
              | false =>
                have hle := less_any HH.out (gt_at hd) (gt_at hs) hx
                rw [show ((2 * m + 2 : Nat) : Int) = 2 * (m : Int) + 2 from by omega] at hle
                obtain ⟨g0, g1, g2, gl⟩ := HH.out.blk.facts3
                go_wp2_with (fail)
                refine hle.mono ?_
                clear hle
                rintro e w1 ⟨rfl, o1⟩
                have h1 := HH.out.keep o1
                have HO1 := Lib.hid (HO.out.trans o1 (by simp))
                clear HH HO o1 g0 g1 g2 gl
                have HH := Lib.hid h1
                clear h1
                go_wp2_with (fail)
                go_roundw
                case rel =>
                  have hx' : ¬ elt (gt_ L2 (2 * m + 2)) (gt_ L2 s) := by simpa using hx
                  refine ⟨s, 2, by go_num, by go_num, by omega, hs, ?_, ?_, HH.out, HO1.out⟩
                  · rcases HM.out with h | ⟨h, h'⟩
                    · exact .inl h
                    · exact .inr ⟨by omega, h'⟩
                  · intro d h1 h2 h3
                    by_cases hde : d = 2 * m + 2
                    · subst hde; exact hx'
                    · exact HN.out d h1 (by omega) h3
                case measure => simp [intOf]
            · have hdz : decide (2 * (m : Int) + 2 < (L2.length : Int)) = false := by simp; omega
              obtain ⟨g0, g1, g2, gl⟩ := HH.out.blk.facts3
              go_wp2_with (fail)
              go_roundw
              case rel =>
                refine ⟨s, 2, by go_num, by go_num, by omega, hs, ?_, ?_, HH.out, HO.out⟩
                · rcases HM.out with h | ⟨h, h'⟩
                  · exact .inl h
                  · exact .inr ⟨by omega, h'⟩
                · intro d h1 h2 h3
                  exact HN.out d h1 (by omega) h3
              case measure => simp [intOf]
          · by_cases hse : s = m
            · subst hse
              go_wp2_with (fail)
              exact bodyPost_ret (v := .tuple #[]) (by simp [results, Try.results29, go_sem]) rfl ⟨rfl, ⟨L2, HH.out, HP.out, HS.out.done (fun d hd hl => HN.out d (by omega) (by omega) hl)⟩, HO.out⟩
            · have hse' : ¬ (s : Int) = (m : Int) := by omega
              have hsw := swap_any HH.out hm hs hl2
              have hfs : s = 2 * m + 1 ∨ s = 2 * m + 2 := by rcases HM.out with h | ⟨h, _⟩ <;> omega
              go_wp2_with (fail)
              refine hsw.mono ?_
              clear hsw
              rintro e w2 ⟨rfl, h2, o2⟩
              have HH2 := Lib.hid h2
              have HO2 := Lib.hid (HO.out.trans o2 (fun _ h => .inl h))
              clear h2 o2 HO HH
              go_wp2_with (fail)
              go_roundw
              case rel =>
                refine ⟨s, swp L2 m s, by go_num, by rw [swp_length]; exact hs, HH2.out, ?_, (swp_perm hm hs).trans HP.out, HO2.out⟩
                refine HS.out.down hfs hs ?_ (fun d hd hl => HN.out d (by omega) (by omega) hl)
                rcases HM.out with h | ⟨_, h⟩
                · exact absurd h hse
                · exact h
              case measure => simp [intOf]; omega

    · obtain ⟨q, hq⟩ : ∃ q : Nat, (k - 1) / 2 = q := ⟨_, rfl⟩
      have hqk : q < k := by omega
      have k0 : (0 : Int) < (k : Int) := by omega
      have hqz : ((k : Int) - 1).tdiv 2 = (q : Int) := by rw [← hq]; rw [Int.tdiv_eq_ediv_of_nonneg (by omega)]; omega
      cases hx : decide (elt (gt_ L' k) (gt_ L' q)) with
      | true =>
        have hle := less_any HH.out (gt_at hk) (gt_at (i := q) (by omega)) hx
        go_wp2_with (fail)
        refine hle.mono ?_
        clear hle
        rintro e w1 ⟨rfl, o1⟩
        have h1 := HH.out.keep o1
        have hsw := swap_any h1 hk (show q < L'.length by omega) hl'
        have HO1 := Lib.hid (HO.out.trans o1 (by simp))
        clear HH HO o1 h1
        go_wp2_with (fail)
        refine hsw.mono ?_
        clear hsw
        rintro e w2 ⟨rfl, h2, o2⟩
        have HH2 := Lib.hid h2
        have HO2 := Lib.hid (HO1.out.trans o2 (fun _ h => .inl h))
        clear h2 o2 HO1
        go_wp2_with (fail)
        go_roundw
        case rel =>
          refine ⟨q, swp L' k q, by go_num, by rw [swp_length]; omega, HH2.out, ?_, (swp_perm hk (by omega)).trans HP.out, HO2.out⟩
          have := HR.out.up hk (by omega) (by rw [hq]; simpa using hx)
          rwa [hq] at this
        case measure => simp [intOf]; omega
      | false =>
        have hle := less_any HH.out (gt_at hk) (gt_at (i := q) (by omega)) hx
        have HS := Lib.hid (HR.out.stay (.inr (by rw [hq]; simpa using hx)))
        clear HR
        go_wp2_with (fail)
        refine hle.mono ?_
        clear hle
        rintro e w1 ⟨rfl, o1⟩
        have h1 := HH.out.keep o1
        have HO1 := Lib.hid (HO.out.trans o1 (by simp))
        clear HH HO o1
        have HH := Lib.hid h1
        have HO := HO1
        clear h1 HO1
        go_wp2_with (fail)
        go_loopw [1] (fun v ws => ∃ (m : Nat) (L2 : List Ent), v = .int .i64 m ∧ m < L2.length ∧ HB B ws g M L2 (some ⟨p, 0, none⟩) c ∧ Sinks L2 m ∧ L2.Perm L ∧ Only (p :: M.toList) w ws) (fun v _ => 1048576 - (intOf v).toNat)
        case atStart => exact ⟨k, L', rfl, hk, HH.out, HS.out, HP.out, HO.out⟩
        case round =>
          clear HH HS HP HO hl' hk
          obtain ⟨m, L2, rfl, hm, hH, hS, hp, hO⟩ := hrel
          have HH := Lib.hid hH
          have HS := Lib.hid hS
          have HP := Lib.hid hp
          have HO := Lib.hid hO
          have hl2 : L2.length ≤ 1048576 := by rw [hp.length_eq]; exact hl
          clear hH hS hp hO
          go_wp2_with (fail)
          go_loopw [4, 34] (fun v u ws => ∃ (s n : Nat), v = .int .i64 s ∧ u = .int .i64 n ∧ n ≤ 2 ∧ s < L2.length ∧ (s = m ∨ (s = 2 * m + 1 ∧ 1 ≤ n ∨ s = 2 * m + 2 ∧ 2 ≤ n) ∧ elt (gt_ L2 s) (gt_ L2 m)) ∧ (∀ d, 2 * m + 1 ≤ d → d < 2 * m + 1 + n → d < L2.length → ¬ elt (gt_ L2 d) (gt_ L2 s)) ∧ HB B ws g M L2 (some ⟨p, 0, none⟩) c ∧ Only (p :: M.toList) w ws) (fun _ u _ => 2 - (intOf u).toNat)
          case atStart => exact ⟨m, 0, rfl, rfl, by omega, hm, .inl rfl, fun d h1 h2 => by omega, HH.out, HO.out⟩
          case round =>
            clear HH HO
            obtain ⟨s, n, rfl, rfl, hn, hs, hsm, hmin, hH, hO⟩ := hrel
            have HH := Lib.hid hH
            have HO := Lib.hid hO
            have HN := Lib.hid hmin
            have HM := Lib.hid hsm
            clear hH hO hmin hsm
            rcases (show n = 0 ∨ n = 1 ∨ n = 2 by omega) with rfl | rfl | rfl
            · by_cases hd : 2 * m + 1 < L2.length
              · have hdz : 2 * (m : Int) + 1 < (L2.length : Int) := by omega
                cases hx : decide (elt (gt_ L2 (2 * m + 1)) (gt_ L2 s)) with
                | true =>
                  have hle := less_any HH.out (gt_at hd) (gt_at hs) hx
                  rw [show ((2 * m + 1 : Nat) : Int) = 2 * (m : Int) + 1 from by omega] at hle
                  obtain ⟨g0, g1, g2, gl⟩ := HH.out.blk.facts3
                  go_wp2_with (fail)
                  refine hle.mono ?_
                  clear hle
                  rintro e w1 ⟨rfl, o1⟩
                  have h1 := HH.out.keep o1
                  have HO1 := Lib.hid (HO.out.trans o1 (by simp))
                  clear HH HO o1 g0 g1 g2 gl
                  have HH := Lib.hid h1
                  clear h1
                  go_wp2_with (fail)
                  go_roundw
                  case rel =>
                    have hx' : elt (gt_ L2 (2 * m + 1)) (gt_ L2 s) := by simpa using hx
                    refine ⟨2 * m + 1, 1, by go_num, by go_num, by omega, hd, .inr ⟨by omega, ?_⟩, ?_, HH.out, HO1.out⟩
                    · rcases HM.out with h | ⟨_, h⟩
                      · rw [h] at hx'; exact hx'
                      · exact elt_trans hx' h
                    · intro d h1 h2 h3 h4
                      by_cases hde : d = 2 * m + 1
                      · subst hde; exact elt_irrefl _ h4
                      · exact HN.out d h1 (by omega) h3 (elt_trans h4 hx')
                  case measure => simp [intOf]
                | false =>
                  have hle := less_any HH.out (gt_at hd) (gt_at hs) hx
                  rw [show ((2 * m + 1 : Nat) : Int) = 2 * (m : Int) + 1 from by omega] at hle
                  obtain ⟨g0, g1, g2, gl⟩ := HH.out.blk.facts3
                  go_wp2_with (fail)
                  refine hle.mono ?_
                  clear hle
                  rintro e w1 ⟨rfl, o1⟩
                  have h1 := HH.out.keep o1
                  have HO1 := Lib.hid (HO.out.trans o1 (by simp))
                  clear HH HO o1 g0 g1 g2 gl
                  have HH := Lib.hid h1
                  clear h1
                  go_wp2_with (fail)
                  go_roundw
                  case rel =>
                    have hx' : ¬ elt (gt_ L2 (2 * m + 1)) (gt_ L2 s) := by simpa using hx
                    refine ⟨s, 1, by go_num, by go_num, by omega, hs, ?_, ?_, HH.out, HO1.out⟩
                    · rcases HM.out with h | ⟨h, h'⟩
                      · exact .inl h
                      · exact .inr ⟨by omega, h'⟩
                    · intro d h1 h2 h3
                      by_cases hde : d = 2 * m + 1
                      · subst hde; exact hx'
                      · exact HN.out d h1 (by omega) h3
                  case measure => simp [intOf]
              · have hdz : decide (2 * (m : Int) + 1 < (L2.length : Int)) = false := by simp; omega
                obtain ⟨g0, g1, g2, gl⟩ := HH.out.blk.facts3
                go_wp2_with (fail)
                go_roundw
                case rel =>
                  refine ⟨s, 1, by go_num, by go_num, by omega, hs, ?_, ?_, HH.out, HO.out⟩
                  · rcases HM.out with h | ⟨h, h'⟩
                    · exact .inl h
                    · exact .inr ⟨by omega, h'⟩
                  · intro d h1 h2 h3
                    exact HN.out d h1 (by omega) h3
                case measure => simp [intOf]
            · by_cases hd : 2 * m + 2 < L2.length
              · have hdz : 2 * (m : Int) + 2 < (L2.length : Int) := by omega
                cases hx : decide (elt (gt_ L2 (2 * m + 2)) (gt_ L2 s)) with
                | true =>
                  have hle := less_any HH.out (gt_at hd) (gt_at hs) hx
                  rw [show ((2 * m + 2 : Nat) : Int) = 2 * (m : Int) + 2 from by omega] at hle
                  obtain ⟨g0, g1, g2, gl⟩ := HH.out.blk.facts3
                  go_wp2_with (fail)
                  refine hle.mono ?_
                  clear hle
                  rintro e w1 ⟨rfl, o1⟩
                  have h1 := HH.out.keep o1
                  have HO1 := Lib.hid (HO.out.trans o1 (by simp))
                  clear HH HO o1 g0 g1 g2 gl
                  have HH := Lib.hid h1
                  clear h1
                  go_wp2_with (fail)
                  go_roundw
                  case rel =>
                    have hx' : elt (gt_ L2 (2 * m + 2)) (gt_ L2 s) := by simpa using hx
                    refine ⟨2 * m + 2, 2, by go_num, by go_num, by omega, hd, .inr ⟨by omega, ?_⟩, ?_, HH.out, HO1.out⟩
                    · rcases HM.out with h | ⟨_, h⟩
                      · rw [h] at hx'; exact hx'
                      · exact elt_trans hx' h
                    · intro d h1 h2 h3 h4
                      by_cases hde : d = 2 * m + 2
                      · subst hde; exact elt_irrefl _ h4
                      · exact HN.out d h1 (by omega) h3 (elt_trans h4 hx')
                  case measure => simp [intOf]
                | false =>
                  have hle := less_any HH.out (gt_at hd) (gt_at hs) hx
                  rw [show ((2 * m + 2 : Nat) : Int) = 2 * (m : Int) + 2 from by omega] at hle
                  obtain ⟨g0, g1, g2, gl⟩ := HH.out.blk.facts3
                  go_wp2_with (fail)
                  refine hle.mono ?_
                  clear hle
                  rintro e w1 ⟨rfl, o1⟩
                  have h1 := HH.out.keep o1
                  have HO1 := Lib.hid (HO.out.trans o1 (by simp))
                  clear HH HO o1 g0 g1 g2 gl
                  have HH := Lib.hid h1
                  clear h1
                  go_wp2_with (fail)
                  go_roundw
                  case rel =>
                    have hx' : ¬ elt (gt_ L2 (2 * m + 2)) (gt_ L2 s) := by simpa using hx
                    refine ⟨s, 2, by go_num, by go_num, by omega, hs, ?_, ?_, HH.out, HO1.out⟩
                    · rcases HM.out with h | ⟨h, h'⟩
                      · exact .inl h
                      · exact .inr ⟨by omega, h'⟩
                    · intro d h1 h2 h3
                      by_cases hde : d = 2 * m + 2
                      · subst hde; exact hx'
                      · exact HN.out d h1 (by omega) h3
                  case measure => simp [intOf]
              · have hdz : decide (2 * (m : Int) + 2 < (L2.length : Int)) = false := by simp; omega
                obtain ⟨g0, g1, g2, gl⟩ := HH.out.blk.facts3
                go_wp2_with (fail)
                go_roundw
                case rel =>
                  refine ⟨s, 2, by go_num, by go_num, by omega, hs, ?_, ?_, HH.out, HO.out⟩
                  · rcases HM.out with h | ⟨h, h'⟩
                    · exact .inl h
                    · exact .inr ⟨by omega, h'⟩
                  · intro d h1 h2 h3
                    exact HN.out d h1 (by omega) h3
                case measure => simp [intOf]
            · by_cases hse : s = m
              · subst hse
                go_wp2_with (fail)
                exact bodyPost_ret (v := .tuple #[]) (by simp [results, Try.results29, go_sem]) rfl ⟨rfl, ⟨L2, HH.out, HP.out, HS.out.done (fun d hd hl => HN.out d (by omega) (by omega) hl)⟩, HO.out⟩
              · have hse' : ¬ (s : Int) = (m : Int) := by omega
                have hsw := swap_any HH.out hm hs hl2
                have hfs : s = 2 * m + 1 ∨ s = 2 * m + 2 := by rcases HM.out with h | ⟨h, _⟩ <;> omega
                go_wp2_with (fail)
                refine hsw.mono ?_
                clear hsw
                rintro e w2 ⟨rfl, h2, o2⟩
                have HH2 := Lib.hid h2
                have HO2 := Lib.hid (HO.out.trans o2 (fun _ h => .inl h))
                clear h2 o2 HO HH
                go_wp2_with (fail)
                go_roundw
                case rel =>
                  refine ⟨s, swp L2 m s, by go_num, by rw [swp_length]; exact hs, HH2.out, ?_, (swp_perm hm hs).trans HP.out, HO2.out⟩
                  refine HS.out.down hfs hs ?_ (fun d hd hl => HN.out d (by omega) (by omega) hl)
                  rcases HM.out with h | ⟨_, h⟩
                  · exact absurd h hse
                  · exact h
                case measure => simp [intOf]; omega

end Go.Proofs.Ytodiemichniehaa
