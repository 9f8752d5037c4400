import Derived.Test.YtoefekgfklillaaDoorWalks2
import Derived.Test.YtoefekgfklillaaDoorShelf
import Derived.Test.YtoefekgfklillaaDoorDivLaw
namespace Go.Proofs.YtoefekgfklillaaDoor
open Go.RowKit Go.Kx
set_option maxRecDepth 20000

theorem u64_natM (x : Nat) (h : x < 18446744073709551616) : IntKind.u64.wrap (x : Int) = x := IntWalk.u64_in _ (by omega)

theorem div_zero (lo y : Nat) (hl : lo < 18446744073709551616) (hy : y < 18446744073709551616) (h : 0 < y) (w : World) :
    Calls Tryd.prog 53 #[.int .u64 0, .int .u64 lo, .int .u64 y] w fun e w' => e = .returned (.tuple #[.int .u64 ((lo / y : Nat) : Int), .int .u64 ((lo % y : Nat) : Int)]) ∧ ∃ n, w' = w.drewN n := by
  have h0 : (y : Int) ≠ 0 := by omega
  have hq : lo / y ≤ lo := Nat.div_le_self _ _
  have hw : IntKind.u64.wrap ((lo : Int) / y) = (lo : Int) / y := by rw [← Int.natCast_ediv]; exact u64_natM _ (by omega)
  go_enter Tryd.func53, Tryd.ntmps53
  go_wp2_with (fail)
  go_quiet (fail)
  go_wp2_with (fail)
  go_ret2
  exact ⟨by simp, _, rfl⟩

theorem bitLen_bounds (y : Nat) (h : 0 < y) (hy : y < 18446744073709551616) : ∃ s, s ≤ 63 ∧ Lib.bitLen y + s = 64 ∧ 9223372036854775808 ≤ y * 2 ^ s ∧ y * 2 ^ s < 18446744073709551616 := by
  obtain ⟨h1, h2, h3⟩ := Lib.bitLenAux_bounds 64 y hy (by omega)
  have h4 : Lib.bitLenAux 64 y - 1 < 64 := (Nat.pow_lt_pow_iff_right (by omega : 1 < 2)).1 (Nat.lt_of_le_of_lt h2 hy)
  unfold Lib.bitLen
  generalize Lib.bitLenAux 64 y = b at *
  refine ⟨64 - b, by omega, by omega, ?_, ?_⟩
  · have : 2 ^ (b - 1) * 2 ^ (64 - b) = 9223372036854775808 := by rw [← Nat.pow_add, show b - 1 + (64 - b) = 63 by omega]
    rw [← this]
    exact Nat.mul_le_mul_right _ h2
  · have : 2 ^ b * 2 ^ (64 - b) = 18446744073709551616 := by rw [← Nat.pow_add, show b + (64 - b) = 64 by omega]
    rw [← this]
    exact Nat.mul_lt_mul_of_pos_right h3 (Nat.two_pow_pos _)

theorem w_mul (q y : Nat) (hq : q < 4294967296) (hy : y < 4294967296) : IntKind.u64.wrap ((q : Int) * y) = (q : Int) * y := by
  have : q * y ≤ 4294967295 * 4294967295 := Nat.mul_le_mul (by omega) (by omega)
  have e := u64_natM (q * y) (by omega)
  simpa using e
theorem w_hr (r : Nat) (hr : r < 4294967296) : IntKind.u64.wrap (4294967296 * (r : Int)) = 4294967296 * (r : Int) := IntWalk.u64_in _ (by omega)
theorem w_hrv (r v : Nat) (hr : r < 4294967296) (hv : v < 4294967296) : IntKind.u64.wrap (4294967296 * (r : Int) + v) = 4294967296 * (r : Int) + v := IntWalk.u64_in _ (by omega)
theorem w_dec (q k : Nat) (h : q = k + 1) (hq : q < 18446744073709551616) : IntKind.u64.wrap ((q : Int) - 1) = k := by subst h; rw [IntWalk.u64_in _ (by omega)]; omega
theorem w_radd (r y : Nat) (hr : r < 4294967296) (hy : y < 4294967296) : IntKind.u64.wrap ((r : Int) + y) = (r : Int) + y := IntWalk.u64_in _ (by omega)
theorem w_quo (u y q : Nat) (hu : u < 18446744073709551616) (hq : q = u / y) : IntKind.u64.wrap ((u : Int) / y) = q := by
  subst hq; rw [← Int.natCast_ediv]
  exact u64_natM _ (Nat.lt_of_le_of_lt (Nat.div_le_self _ _) hu)
theorem w_rem (u y q r : Nat) (hu : u < 18446744073709551616) (hq : q * y + r = u) : IntKind.u64.wrap ((u : Int) - IntKind.u64.wrap ((q : Int) * y)) = r := by
  have e := u64_natM (q * y) (by omega)
  simp at e
  rw [e]
  have e2 : ((q * y : Nat) : Int) = (q : Int) * y := by simp
  rw [← e2]
  generalize q * y = A at *
  rw [IntWalk.u64_in _ (by omega)]
  omega
theorem w_rest {u v q Y : Nat} (hY : Y < 18446744073709551616) (hu : u < Y) (hq : q = (u * 4294967296 + v) / Y) :
    IntKind.u64.wrap (IntKind.u64.wrap (IntKind.u64.wrap ((u : Int) * 4294967296) + v) - IntKind.u64.wrap ((q : Int) * Y)) = (((u * 4294967296 + v) % Y : Nat) : Int) := by
  rw [← digit_rest hY hu hq]
  simp only [IntKind.wrap_u64]
theorem w_quot (q1 q0 : Nat) (h1 : q1 < 4294967296) (h0 : q0 < 4294967296) : IntKind.u64.wrap (IntKind.u64.wrap ((q1 : Int) * 4294967296) + q0) = (q1 : Int) * 4294967296 + q0 := by
  rw [IntWalk.u64_in ((q1 : Int) * 4294967296) (by omega)]; exact IntWalk.u64_in _ (by omega)

set_option maxHeartbeats 20000000 in
theorem div_core (hi lo y s Y y1 y0 U V v1 v0 : Nat) (_ : lo < 18446744073709551616) (hy : y < 18446744073709551616) (h : hi < y) (h1 : 0 < hi)
    (hs : s ≤ 63) (es : IntKind.u64.wrap (64 - (Lib.bitLen y : Int)) = (s : Int)) (eY : IntKind.u64.wrap ((y : Int) * 2 ^ s) = (Y : Int)) (ey1 : (Y : Int) / 4294967296 = y1) (ey0 : bits .and .u64 (Y : Int) 4294967295 = y0)
    (eU : bits .or .u64 (IntKind.u64.wrap ((hi : Int) * 2 ^ s)) ((lo : Int) / 2 ^ (64 - s)) = (U : Int)) (eV : IntKind.u64.wrap ((lo : Int) * 2 ^ s) = (V : Int)) (ev1 : (V : Int) / 4294967296 = v1) (ev0 : bits .and .u64 (V : Int) 4294967295 = v0)
    (hy1 : 2147483648 ≤ y1) (hy1' : y1 < 4294967296) (hy0 : y0 < 4294967296) (hv1 : v1 < 4294967296) (hv0 : v0 < 4294967296) (hU : U < y1 * 4294967296 + y0) (hY : Y = y1 * 4294967296 + y0) (w : World) :
    Calls Tryd.prog 53 #[.int .u64 hi, .int .u64 lo, .int .u64 y] w fun e w' => e = .returned (.tuple #[.int .u64 ((((U * 4294967296 + v1) / Y) * 4294967296 + ((U * 4294967296 + v1) % Y * 4294967296 + v0) / Y : Nat) : Int), .int .u64 ((((U * 4294967296 + v1) % Y * 4294967296 + v0) % Y / 2 ^ s : Nat) : Int)]) ∧ ∃ n, w' = w.drewN n := by
  have h0 : (y : Int) ≠ 0 := by omega
  have h00 : (y1 : Int) ≠ 0 := by omega
  have hm : min s 64 = s := by omega
  obtain ⟨q0, hq0⟩ : ∃ q, q = U / y1 := ⟨_, rfl⟩
  obtain ⟨r0, hr0⟩ : ∃ r, r = U % y1 := ⟨_, rfl⟩
  have G0 := guess_first hy1 hy1' hy0 hv1 hU
  rw [← hq0, ← hr0] at G0
  have G1 := Lib.hid G0
  have d1 := w_quo U y1 q0 (by omega) hq0
  have d2 := w_rem U y1 q0 r0 (by omega) G0.split
  have HY := Lib.hid hY
  clear hY G0 hq0 hr0
  go_enter Tryd.func53, Tryd.ntmps53
  go_wp2_with (go_at_call 60; refine (Tryd.bits_LeadingZeros64 _ _ (by omega) (by omega)).mono ?_; rintro e w' ⟨rfl, hw⟩; obtain rfl := hw.symm)
  go_loopw [15, 16] (fun x y wr => ∃ q r : Nat, x = .int .u64 q ∧ y = .int .u64 r ∧ Guess y1 y0 U v1 q r ∧ ∃ n, wr = w.drewN n) (fun x _ _ => (intOf x).toNat)
  case atStart => exact ⟨_, _, rfl, rfl, G1.out, 0, rfl⟩
  case round =>
    obtain ⟨q, r, rfl, rfl, g, n, rfl⟩ := hrel
    have G := Lib.hid g
    have gr := g.rem
    have gb := g.big
    clear g
    have f2 := w_hr r gr
    have f3 := w_hrv r v1 gr (by omega)
    have f5 := w_radd r y1 gr (by omega)
    by_cases c1 : 4294967296 ≤ q
    · obtain ⟨k, hk⟩ : ∃ k, q = k + 1 := ⟨q - 1, by omega⟩
      have C1 := Lib.hid c1
      have c1i : 4294967296 ≤ (q : Int) := by omega
      have f4 := w_dec q k hk (by omega)
      have HK := Lib.hid hk
      have GB := Lib.hid (And.intro gr gb)
      have ci3 : (r : Int) + y1 < 4294967296 ∨ 4294967296 ≤ (r : Int) + y1 := Int.lt_or_le _ _
      clear hk gr gb c1
      rcases ci3 with ci3 | ci3
      · have c4 : decide (4294967296 ≤ (r : Int) + y1) = false := by simp; omega
        have CI := Lib.hid ci3
        clear ci3
        go_wp2_with (fail)
        go_roundw
        case rel => exact ⟨k, r + y1, rfl, by go_num, by have := CI.out; have := G.out.next (by omega) (by omega) (.inl C1.out) (by omega); rw [HK.out] at this; exact this, _, rfl⟩
        case measure => have := HK.out; simp [intOf]; omega
      · have hQ : k = (U * 4294967296 + v1) / (y1 * 4294967296 + y0) := by have := G.out.broke (by omega) (by omega) (by omega) (.inl C1.out) (by omega); rw [← this, HK.out]; rfl
        have HQ := Lib.hid hQ
        clear HK G hQ
        obtain ⟨R, hR⟩ : ∃ R, R = (U * 4294967296 + v1) % Y := ⟨_, rfl⟩
        have hRY : R < y1 * 4294967296 + y0 := by rw [hR, ← HY.out]; exact Nat.mod_lt _ (by have := HY.out; omega)
        have e1 := @w_rest U v1 k Y (by have := HY.out; omega) (by have := HY.out; omega) (by rw [HY.out]; exact HQ.out)
        rw [← hR] at e1
        have HQ1 := Lib.hid (show k = (U * 4294967296 + v1) / (y1 * 4294967296 + y0) from HQ.out)
        have HL := Lib.hid (show k < 4294967296 by rw [HQ1.out]; exact guess_lt hv1 hU)
        obtain ⟨q1, hq1⟩ : ∃ q, q = R / y1 := ⟨_, rfl⟩
        obtain ⟨r1, hr1⟩ : ∃ r, r = R % y1 := ⟨_, rfl⟩
        have G3 := guess_first hy1 hy1' hy0 hv0 hRY
        rw [← hq1, ← hr1] at G3
        have G4 := Lib.hid G3
        have d3 := w_quo R y1 q1 (by omega) hq1
        have d4 := w_rem R y1 q1 r1 (by omega) G3.split
        have HR := Lib.hid hR
        clear HQ G3 hq1 hr1 hR
        go_wp2_with (fail)
        clear f2 f3 f5 c1i
        go_loopw [18, 16] (fun x y wr => ∃ qq r : Nat, x = .int .u64 qq ∧ y = .int .u64 r ∧ Guess y1 y0 R v0 qq r ∧ ∃ n, wr = w.drewN n) (fun x _ _ => (intOf x).toNat)
        case atStart => exact ⟨_, _, rfl, rfl, G4.out, _, rfl⟩
        case round =>
          obtain ⟨qq, r, rfl, rfl, g, n, rfl⟩ := hrel
          have G := Lib.hid g
          have gr := g.rem
          have gb := g.big
          clear g
          have f2 := w_hr r gr
          have f3 := w_hrv r v0 gr (by omega)
          have f5 := w_radd r y1 gr (by omega)
          by_cases c1 : 4294967296 ≤ qq
          · obtain ⟨kk, hk⟩ : ∃ kk, qq = kk + 1 := ⟨qq - 1, by omega⟩
            have C1 := Lib.hid c1
            have c1i : 4294967296 ≤ (qq : Int) := by omega
            have f4 := w_dec qq kk hk (by omega)
            have HK := Lib.hid hk
            have GB := Lib.hid (And.intro gr gb)
            have ci3 : (r : Int) + y1 < 4294967296 ∨ 4294967296 ≤ (r : Int) + y1 := Int.lt_or_le _ _
            clear hk gr gb c1
            rcases ci3 with ci3 | ci3
            · have c4 : decide (4294967296 ≤ (r : Int) + y1) = false := by simp; omega
              have CI := Lib.hid ci3
              clear ci3
              go_wp2_with (fail)
              go_roundw
              case rel => exact ⟨kk, r + y1, rfl, by go_num, by have := CI.out; have := G.out.next (by omega) (by omega) (.inl C1.out) (by omega); rw [HK.out] at this; exact this, _, rfl⟩
              case measure => have := HK.out; simp [intOf]; omega
            · have hQ : kk = (R * 4294967296 + v0) / (y1 * 4294967296 + y0) := by have := G.out.broke (by omega) (by omega) (by omega) (.inl C1.out) (by omega); rw [← this, HK.out]; rfl
              have HQ := Lib.hid hQ
              clear HK G hQ
              have hR0 := @w_rest R v0 kk Y (by have := HY.out; omega) (by have := HY.out; omega) (by rw [HY.out]; exact HQ.out)
              have hlq : kk < 4294967296 := by rw [HQ.out]; exact guess_lt hv0 hRY
              have hq3 := w_quot k kk HL.out hlq
              have HLQ := Lib.hid hlq
              clear hlq
              have hpos : (0 : Int) < 2 ^ s := Int.pow_pos (by omega)
              go_wp2_with (fail)
              go_ret2
              refine ⟨?_, _, rfl⟩
              have E1 : (U * 4294967296 + v1) / Y = k := by rw [HQ1.out, HY.out]
              have E2 : (R * 4294967296 + v0) / Y = kk := by rw [HQ.out, HY.out]
              rw [E1, ← HR.out, E2]
              rfl
          · have f1 := w_mul qq y0 (by omega) (by omega)
            by_cases c2 : 4294967296 * r + v0 < qq * y0
            · obtain ⟨kk, hk⟩ : ∃ kk, qq = kk + 1 := ⟨qq - 1, by have := G.out.less (by omega) (by omega) (.inr c2); have := Nat.le_trans (Nat.le_add_left 1 _) this; omega⟩
              have C2 := Lib.hid c2
              have c1i : (qq : Int) < 4294967296 := by omega
              have c2i : 4294967296 * (r : Int) + v0 < (qq : Int) * y0 := by have := C2.out; omega
              have f4 := w_dec qq kk hk (by omega)
              have HK := Lib.hid hk
              have GB := Lib.hid (And.intro gr gb)
              have ci3 : (r : Int) + y1 < 4294967296 ∨ 4294967296 ≤ (r : Int) + y1 := Int.lt_or_le _ _
              clear hk gr gb c1 c2
              rcases ci3 with ci3 | ci3
              · have c4 : decide (4294967296 ≤ (r : Int) + y1) = false := by simp; omega
                have CI := Lib.hid ci3
                clear ci3
                go_wp2_with (fail)
                go_roundw
                case rel => exact ⟨kk, r + y1, rfl, by go_num, by have := CI.out; have := G.out.next (by omega) (by omega) (.inr C2.out) (by omega); rw [HK.out] at this; exact this, _, rfl⟩
                case measure => have := HK.out; simp [intOf]; omega
              · have hQ : kk = (R * 4294967296 + v0) / (y1 * 4294967296 + y0) := by have := G.out.broke (by omega) (by omega) (by omega) (.inr C2.out) (by omega); rw [← this, HK.out]; rfl
                have HQ := Lib.hid hQ
                clear HK G hQ
                have hR0 := @w_rest R v0 kk Y (by have := HY.out; omega) (by have := HY.out; omega) (by rw [HY.out]; exact HQ.out)
                have hlq : kk < 4294967296 := by rw [HQ.out]; exact guess_lt hv0 hRY
                have hq3 := w_quot k kk HL.out hlq
                have HLQ := Lib.hid hlq
                clear hlq
                have hpos : (0 : Int) < 2 ^ s := Int.pow_pos (by omega)
                go_wp2_with (fail)
                go_ret2
                refine ⟨?_, _, rfl⟩
                have E1 : (U * 4294967296 + v1) / Y = k := by rw [HQ1.out, HY.out]
                have E2 : (R * 4294967296 + v0) / Y = kk := by rw [HQ.out, HY.out]
                rw [E1, ← HR.out, E2]
                rfl
            · have c1i : decide (4294967296 ≤ (qq : Int)) = false := by simp; omega
              have c2i : decide (4294967296 * (r : Int) + v0 < (qq : Int) * y0) = false := by simp; omega
              have hQ := G.out.done (by omega) (Nat.not_lt.1 c2)
              have HQ := Lib.hid hQ
              clear G c1 c2 hQ gr gb
              have hR0 := @w_rest R v0 qq Y (by have := HY.out; omega) (by have := HY.out; omega) (by rw [HY.out]; exact HQ.out)
              have hlq : qq < 4294967296 := by rw [HQ.out]; exact guess_lt hv0 hRY
              have hq3 := w_quot k qq HL.out hlq
              have HLQ := Lib.hid hlq
              clear hlq
              have hpos : (0 : Int) < 2 ^ s := Int.pow_pos (by omega)
              go_wp2_with (fail)
              go_ret2
              refine ⟨?_, _, rfl⟩
              have E1 : (U * 4294967296 + v1) / Y = k := by rw [HQ1.out, HY.out]
              have E2 : (R * 4294967296 + v0) / Y = qq := by rw [HQ.out, HY.out]
              rw [E1, ← HR.out, E2]
              rfl
    · have f1 := w_mul q y0 (by omega) (by omega)
      by_cases c2 : 4294967296 * r + v1 < q * y0
      · obtain ⟨k, hk⟩ : ∃ k, q = k + 1 := ⟨q - 1, by have := G.out.less (by omega) (by omega) (.inr c2); have := Nat.le_trans (Nat.le_add_left 1 _) this; omega⟩
        have C2 := Lib.hid c2
        have c1i : (q : Int) < 4294967296 := by omega
        have c2i : 4294967296 * (r : Int) + v1 < (q : Int) * y0 := by have := C2.out; omega
        have f4 := w_dec q k hk (by omega)
        have HK := Lib.hid hk
        have GB := Lib.hid (And.intro gr gb)
        have ci3 : (r : Int) + y1 < 4294967296 ∨ 4294967296 ≤ (r : Int) + y1 := Int.lt_or_le _ _
        clear hk gr gb c1 c2
        rcases ci3 with ci3 | ci3
        · have c4 : decide (4294967296 ≤ (r : Int) + y1) = false := by simp; omega
          have CI := Lib.hid ci3
          clear ci3
          go_wp2_with (fail)
          go_roundw
          case rel => exact ⟨k, r + y1, rfl, by go_num, by have := CI.out; have := G.out.next (by omega) (by omega) (.inr C2.out) (by omega); rw [HK.out] at this; exact this, _, rfl⟩
          case measure => have := HK.out; simp [intOf]; omega
        · have hQ : k = (U * 4294967296 + v1) / (y1 * 4294967296 + y0) := by have := G.out.broke (by omega) (by omega) (by omega) (.inr C2.out) (by omega); rw [← this, HK.out]; rfl
          have HQ := Lib.hid hQ
          clear HK G hQ
          obtain ⟨R, hR⟩ : ∃ R, R = (U * 4294967296 + v1) % Y := ⟨_, rfl⟩
          have hRY : R < y1 * 4294967296 + y0 := by rw [hR, ← HY.out]; exact Nat.mod_lt _ (by have := HY.out; omega)
          have e1 := @w_rest U v1 k Y (by have := HY.out; omega) (by have := HY.out; omega) (by rw [HY.out]; exact HQ.out)
          rw [← hR] at e1
          have HQ1 := Lib.hid (show k = (U * 4294967296 + v1) / (y1 * 4294967296 + y0) from HQ.out)
          have HL := Lib.hid (show k < 4294967296 by rw [HQ1.out]; exact guess_lt hv1 hU)
          obtain ⟨q1, hq1⟩ : ∃ q, q = R / y1 := ⟨_, rfl⟩
          obtain ⟨r1, hr1⟩ : ∃ r, r = R % y1 := ⟨_, rfl⟩
          have G3 := guess_first hy1 hy1' hy0 hv0 hRY
          rw [← hq1, ← hr1] at G3
          have G4 := Lib.hid G3
          have d3 := w_quo R y1 q1 (by omega) hq1
          have d4 := w_rem R y1 q1 r1 (by omega) G3.split
          have HR := Lib.hid hR
          clear HQ G3 hq1 hr1 hR
          go_wp2_with (fail)
          clear f2 f3 f5 c1i
          go_loopw [18, 16] (fun x y wr => ∃ qq r : Nat, x = .int .u64 qq ∧ y = .int .u64 r ∧ Guess y1 y0 R v0 qq r ∧ ∃ n, wr = w.drewN n) (fun x _ _ => (intOf x).toNat)
          case atStart => exact ⟨_, _, rfl, rfl, G4.out, _, rfl⟩
          case round =>
            obtain ⟨qq, r, rfl, rfl, g, n, rfl⟩ := hrel
            have G := Lib.hid g
            have gr := g.rem
            have gb := g.big
            clear g
            have f2 := w_hr r gr
            have f3 := w_hrv r v0 gr (by omega)
            have f5 := w_radd r y1 gr (by omega)
            by_cases c1 : 4294967296 ≤ qq
            · obtain ⟨kk, hk⟩ : ∃ kk, qq = kk + 1 := ⟨qq - 1, by omega⟩
              have C1 := Lib.hid c1
              have c1i : 4294967296 ≤ (qq : Int) := by omega
              have f4 := w_dec qq kk hk (by omega)
              have HK := Lib.hid hk
              have GB := Lib.hid (And.intro gr gb)
              have ci3 : (r : Int) + y1 < 4294967296 ∨ 4294967296 ≤ (r : Int) + y1 := Int.lt_or_le _ _
              clear hk gr gb c1
              rcases ci3 with ci3 | ci3
              · have c4 : decide (4294967296 ≤ (r : Int) + y1) = false := by simp; omega
                have CI := Lib.hid ci3
                clear ci3
                go_wp2_with (fail)
                go_roundw
                case rel => exact ⟨kk, r + y1, rfl, by go_num, by have := CI.out; have := G.out.next (by omega) (by omega) (.inl C1.out) (by omega); rw [HK.out] at this; exact this, _, rfl⟩
                case measure => have := HK.out; simp [intOf]; omega
              · have hQ : kk = (R * 4294967296 + v0) / (y1 * 4294967296 + y0) := by have := G.out.broke (by omega) (by omega) (by omega) (.inl C1.out) (by omega); rw [← this, HK.out]; rfl
                have HQ := Lib.hid hQ
                clear HK G hQ
                have hR0 := @w_rest R v0 kk Y (by have := HY.out; omega) (by have := HY.out; omega) (by rw [HY.out]; exact HQ.out)
                have hlq : kk < 4294967296 := by rw [HQ.out]; exact guess_lt hv0 hRY
                have hq3 := w_quot k kk HL.out hlq
                have HLQ := Lib.hid hlq
                clear hlq
                have hpos : (0 : Int) < 2 ^ s := Int.pow_pos (by omega)
                go_wp2_with (fail)
                go_ret2
                refine ⟨?_, _, rfl⟩
                have E1 : (U * 4294967296 + v1) / Y = k := by rw [HQ1.out, HY.out]
                have E2 : (R * 4294967296 + v0) / Y = kk := by rw [HQ.out, HY.out]
                rw [E1, ← HR.out, E2]
                rfl
            · have f1 := w_mul qq y0 (by omega) (by omega)
              by_cases c2 : 4294967296 * r + v0 < qq * y0
              · obtain ⟨kk, hk⟩ : ∃ kk, qq = kk + 1 := ⟨qq - 1, by have := G.out.less (by omega) (by omega) (.inr c2); have := Nat.le_trans (Nat.le_add_left 1 _) this; omega⟩
                have C2 := Lib.hid c2
                have c1i : (qq : Int) < 4294967296 := by omega
                have c2i : 4294967296 * (r : Int) + v0 < (qq : Int) * y0 := by have := C2.out; omega
                have f4 := w_dec qq kk hk (by omega)
                have HK := Lib.hid hk
                have GB := Lib.hid (And.intro gr gb)
                have ci3 : (r : Int) + y1 < 4294967296 ∨ 4294967296 ≤ (r : Int) + y1 := Int.lt_or_le _ _
                clear hk gr gb c1 c2
                rcases ci3 with ci3 | ci3
                · have c4 : decide (4294967296 ≤ (r : Int) + y1) = false := by simp; omega
                  have CI := Lib.hid ci3
                  clear ci3
                  go_wp2_with (fail)
                  go_roundw
                  case rel => exact ⟨kk, r + y1, rfl, by go_num, by have := CI.out; have := G.out.next (by omega) (by omega) (.inr C2.out) (by omega); rw [HK.out] at this; exact this, _, rfl⟩
                  case measure => have := HK.out; simp [intOf]; omega
                · have hQ : kk = (R * 4294967296 + v0) / (y1 * 4294967296 + y0) := by have := G.out.broke (by omega) (by omega) (by omega) (.inr C2.out) (by omega); rw [← this, HK.out]; rfl
                  have HQ := Lib.hid hQ
                  clear HK G hQ
                  have hR0 := @w_rest R v0 kk Y (by have := HY.out; omega) (by have := HY.out; omega) (by rw [HY.out]; exact HQ.out)
                  have hlq : kk < 4294967296 := by rw [HQ.out]; exact guess_lt hv0 hRY
                  have hq3 := w_quot k kk HL.out hlq
                  have HLQ := Lib.hid hlq
                  clear hlq
                  have hpos : (0 : Int) < 2 ^ s := Int.pow_pos (by omega)
                  go_wp2_with (fail)
                  go_ret2
                  refine ⟨?_, _, rfl⟩
                  have E1 : (U * 4294967296 + v1) / Y = k := by rw [HQ1.out, HY.out]
                  have E2 : (R * 4294967296 + v0) / Y = kk := by rw [HQ.out, HY.out]
                  rw [E1, ← HR.out, E2]
                  rfl
              · have c1i : decide (4294967296 ≤ (qq : Int)) = false := by simp; omega
                have c2i : decide (4294967296 * (r : Int) + v0 < (qq : Int) * y0) = false := by simp; omega
                have hQ := G.out.done (by omega) (Nat.not_lt.1 c2)
                have HQ := Lib.hid hQ
                clear G c1 c2 hQ gr gb
                have hR0 := @w_rest R v0 qq Y (by have := HY.out; omega) (by have := HY.out; omega) (by rw [HY.out]; exact HQ.out)
                have hlq : qq < 4294967296 := by rw [HQ.out]; exact guess_lt hv0 hRY
                have hq3 := w_quot k qq HL.out hlq
                have HLQ := Lib.hid hlq
                clear hlq
                have hpos : (0 : Int) < 2 ^ s := Int.pow_pos (by omega)
                go_wp2_with (fail)
                go_ret2
                refine ⟨?_, _, rfl⟩
                have E1 : (U * 4294967296 + v1) / Y = k := by rw [HQ1.out, HY.out]
                have E2 : (R * 4294967296 + v0) / Y = qq := by rw [HQ.out, HY.out]
                rw [E1, ← HR.out, E2]
                rfl
      · have c1i : decide (4294967296 ≤ (q : Int)) = false := by simp; omega
        have c2i : decide (4294967296 * (r : Int) + v1 < (q : Int) * y0) = false := by simp; omega
        have hQ := G.out.done (by omega) (Nat.not_lt.1 c2)
        have HQ := Lib.hid hQ
        clear G c1 c2 hQ gr gb
        obtain ⟨R, hR⟩ : ∃ R, R = (U * 4294967296 + v1) % Y := ⟨_, rfl⟩
        have hRY : R < y1 * 4294967296 + y0 := by rw [hR, ← HY.out]; exact Nat.mod_lt _ (by have := HY.out; omega)
        have e1 := @w_rest U v1 q Y (by have := HY.out; omega) (by have := HY.out; omega) (by rw [HY.out]; exact HQ.out)
        rw [← hR] at e1
        have HQ1 := Lib.hid (show q = (U * 4294967296 + v1) / (y1 * 4294967296 + y0) from HQ.out)
        have HL := Lib.hid (show q < 4294967296 by rw [HQ1.out]; exact guess_lt hv1 hU)
        obtain ⟨q1, hq1⟩ : ∃ q, q = R / y1 := ⟨_, rfl⟩
        obtain ⟨r1, hr1⟩ : ∃ r, r = R % y1 := ⟨_, rfl⟩
        have G3 := guess_first hy1 hy1' hy0 hv0 hRY
        rw [← hq1, ← hr1] at G3
        have G4 := Lib.hid G3
        have d3 := w_quo R y1 q1 (by omega) hq1
        have d4 := w_rem R y1 q1 r1 (by omega) G3.split
        have HR := Lib.hid hR
        clear HQ G3 hq1 hr1 hR
        go_wp2_with (fail)
        clear f2 f3 f5 c1i
        go_loopw [18, 16] (fun x y wr => ∃ qq r : Nat, x = .int .u64 qq ∧ y = .int .u64 r ∧ Guess y1 y0 R v0 qq r ∧ ∃ n, wr = w.drewN n) (fun x _ _ => (intOf x).toNat)
        case atStart => exact ⟨_, _, rfl, rfl, G4.out, _, rfl⟩
        case round =>
          obtain ⟨qq, r, rfl, rfl, g, n, rfl⟩ := hrel
          have G := Lib.hid g
          have gr := g.rem
          have gb := g.big
          clear g
          have f2 := w_hr r gr
          have f3 := w_hrv r v0 gr (by omega)
          have f5 := w_radd r y1 gr (by omega)
          by_cases c1 : 4294967296 ≤ qq
          · obtain ⟨kk, hk⟩ : ∃ kk, qq = kk + 1 := ⟨qq - 1, by omega⟩
            have C1 := Lib.hid c1
            have c1i : 4294967296 ≤ (qq : Int) := by omega
            have f4 := w_dec qq kk hk (by omega)
            have HK := Lib.hid hk
            have GB := Lib.hid (And.intro gr gb)
            have ci3 : (r : Int) + y1 < 4294967296 ∨ 4294967296 ≤ (r : Int) + y1 := Int.lt_or_le _ _
            clear hk gr gb c1
            rcases ci3 with ci3 | ci3
            · have c4 : decide (4294967296 ≤ (r : Int) + y1) = false := by simp; omega
              have CI := Lib.hid ci3
              clear ci3
              go_wp2_with (fail)
              go_roundw
              case rel => exact ⟨kk, r + y1, rfl, by go_num, by have := CI.out; have := G.out.next (by omega) (by omega) (.inl C1.out) (by omega); rw [HK.out] at this; exact this, _, rfl⟩
              case measure => have := HK.out; simp [intOf]; omega
            · have hQ : kk = (R * 4294967296 + v0) / (y1 * 4294967296 + y0) := by have := G.out.broke (by omega) (by omega) (by omega) (.inl C1.out) (by omega); rw [← this, HK.out]; rfl
              have HQ := Lib.hid hQ
              clear HK G hQ
              have hR0 := @w_rest R v0 kk Y (by have := HY.out; omega) (by have := HY.out; omega) (by rw [HY.out]; exact HQ.out)
              have hlq : kk < 4294967296 := by rw [HQ.out]; exact guess_lt hv0 hRY
              have hq3 := w_quot q kk HL.out hlq
              have HLQ := Lib.hid hlq
              clear hlq
              have hpos : (0 : Int) < 2 ^ s := Int.pow_pos (by omega)
              go_wp2_with (fail)
              go_ret2
              refine ⟨?_, _, rfl⟩
              have E1 : (U * 4294967296 + v1) / Y = q := by rw [HQ1.out, HY.out]
              have E2 : (R * 4294967296 + v0) / Y = kk := by rw [HQ.out, HY.out]
              rw [E1, ← HR.out, E2]
              rfl
          · have f1 := w_mul qq y0 (by omega) (by omega)
            by_cases c2 : 4294967296 * r + v0 < qq * y0
            · obtain ⟨kk, hk⟩ : ∃ kk, qq = kk + 1 := ⟨qq - 1, by have := G.out.less (by omega) (by omega) (.inr c2); have := Nat.le_trans (Nat.le_add_left 1 _) this; omega⟩
              have C2 := Lib.hid c2
              have c1i : (qq : Int) < 4294967296 := by omega
              have c2i : 4294967296 * (r : Int) + v0 < (qq : Int) * y0 := by have := C2.out; omega
              have f4 := w_dec qq kk hk (by omega)
              have HK := Lib.hid hk
              have GB := Lib.hid (And.intro gr gb)
              have ci3 : (r : Int) + y1 < 4294967296 ∨ 4294967296 ≤ (r : Int) + y1 := Int.lt_or_le _ _
              clear hk gr gb c1 c2
              rcases ci3 with ci3 | ci3
              · have c4 : decide (4294967296 ≤ (r : Int) + y1) = false := by simp; omega
                have CI := Lib.hid ci3
                clear ci3
                go_wp2_with (fail)
                go_roundw
                case rel => exact ⟨kk, r + y1, rfl, by go_num, by have := CI.out; have := G.out.next (by omega) (by omega) (.inr C2.out) (by omega); rw [HK.out] at this; exact this, _, rfl⟩
                case measure => have := HK.out; simp [intOf]; omega
              · have hQ : kk = (R * 4294967296 + v0) / (y1 * 4294967296 + y0) := by have := G.out.broke (by omega) (by omega) (by omega) (.inr C2.out) (by omega); rw [← this, HK.out]; rfl
                have HQ := Lib.hid hQ
                clear HK G hQ
                have hR0 := @w_rest R v0 kk Y (by have := HY.out; omega) (by have := HY.out; omega) (by rw [HY.out]; exact HQ.out)
                have hlq : kk < 4294967296 := by rw [HQ.out]; exact guess_lt hv0 hRY
                have hq3 := w_quot q kk HL.out hlq
                have HLQ := Lib.hid hlq
                clear hlq
                have hpos : (0 : Int) < 2 ^ s := Int.pow_pos (by omega)
                go_wp2_with (fail)
                go_ret2
                refine ⟨?_, _, rfl⟩
                have E1 : (U * 4294967296 + v1) / Y = q := by rw [HQ1.out, HY.out]
                have E2 : (R * 4294967296 + v0) / Y = kk := by rw [HQ.out, HY.out]
                rw [E1, ← HR.out, E2]
                rfl
            · have c1i : decide (4294967296 ≤ (qq : Int)) = false := by simp; omega
              have c2i : decide (4294967296 * (r : Int) + v0 < (qq : Int) * y0) = false := by simp; omega
              have hQ := G.out.done (by omega) (Nat.not_lt.1 c2)
              have HQ := Lib.hid hQ
              clear G c1 c2 hQ gr gb
              have hR0 := @w_rest R v0 qq Y (by have := HY.out; omega) (by have := HY.out; omega) (by rw [HY.out]; exact HQ.out)
              have hlq : qq < 4294967296 := by rw [HQ.out]; exact guess_lt hv0 hRY
              have hq3 := w_quot q qq HL.out hlq
              have HLQ := Lib.hid hlq
              clear hlq
              have hpos : (0 : Int) < 2 ^ s := Int.pow_pos (by omega)
              go_wp2_with (fail)
              go_ret2
              refine ⟨?_, _, rfl⟩
              have E1 : (U * 4294967296 + v1) / Y = q := by rw [HQ1.out, HY.out]
              have E2 : (R * 4294967296 + v0) / Y = qq := by rw [HQ.out, HY.out]
              rw [E1, ← HR.out, E2]
              rfl

end Go.Proofs.YtoefekgfklillaaDoor
