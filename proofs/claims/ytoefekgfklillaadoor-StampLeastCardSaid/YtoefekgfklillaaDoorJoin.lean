/- span.join: what it answers of two reduced fractions with an end. -/
import Derived.Test.YtoefekgfklillaaDoorJoinW
namespace Go.Proofs.YtoefekgfklillaaDoor
open Go.RowKit Go.Kx

/-- the time that N through D is, or that it doesn't fit -/
def redV (N D : Nat) : Value := fitV (N / Nat.gcd N D) (D / Nat.gcd N D)

/-- a product with its words named -/
theorem product_n {a b x y : Nat} (ha : a < 18446744073709551616) (hb : b < 18446744073709551616) (hx : x = a * b / 18446744073709551616) (hy : y = a * b % 18446744073709551616) (w : World) :
    Calls Tryd.prog 40 #[.int .u64 a, .int .u64 b] w fun e w' => e = .returned (.tuple #[.int .u64 x, .int .u64 y]) ∧ w' = w := by
  subst hx hy
  exact product_any a b ha hb w
theorem divisor_n {a b k : Nat} (ha : a < 18446744073709551616) (hb : b < 18446744073709551616) (hk : k = Nat.gcd a b) (w : World) :
    Calls Tryd.prog 42 #[.int .u64 a, .int .u64 b] w fun e w' => e = .returned (.int .u64 k) ∧ ∃ n, w' = w.drewN n := by
  subst hk
  exact divisor_any a b ha hb w
theorem div_n {h hi lo y q r : Nat} (hl : lo < 18446744073709551616) (hy : y < 18446744073709551616) (hh : h = hi) (hlt : h < y) (hq : q = (h * 18446744073709551616 + lo) / y) (hr : r = (h * 18446744073709551616 + lo) % y) (w : World) :
    Calls Tryd.prog 53 #[.int .u64 (hi : Int), .int .u64 lo, .int .u64 y] w fun e w' => e = .returned (.tuple #[.int .u64 q, .int .u64 r]) ∧ ∃ n, w' = w.drewN n := by
  subst hh hq hr
  exact div_any h lo y hl hy hlt w

/-- join's numbers: n through d is the sum, reduced -/
theorem red_join {an ad bn bd g X a' b' k N : Nat} (ha : Nat.gcd an ad = 1) (hb : Nat.gcd bn bd = 1) (p1 : 0 < ad) (p2 : 0 < bd) (hg : g = Nat.gcd ad bd) (ea : a' = ad / g) (eb : b' = bd / g)
    (hx : X + bn * a' = an * b' ∨ X = an * b' + bn * a') (hN : N = g * X) (hk : k = Nat.gcd X g) :
    N / Nat.gcd N (ad * bd) = X / k ∧ ad * bd / Nat.gcd N (ad * bd) = a' * (bd / k) := by
  have hg0 : 0 < g := by rw [hg]; exact Nat.gcd_pos_of_pos_left _ p1
  have ea' : ad = a' * g := by rw [ea, Nat.div_mul_cancel (hg ▸ Nat.gcd_dvd_left _ _)]
  have eb' : bd = b' * g := by rw [eb, Nat.div_mul_cancel (hg ▸ Nat.gcd_dvd_right _ _)]
  have hl := join_law ha hb hg hg0 ea' eb' hx hk
  have hD : 0 < ad * bd := Nat.mul_pos p1 p2
  have hk0 : 0 < k := by rw [hk]; exact Nat.gcd_pos_of_pos_right _ hg0
  have hkb : k ∣ bd := hk ▸ Nat.dvd_trans (Nat.gcd_dvd_right X g) (hg ▸ Nat.gcd_dvd_right ad bd)
  have ha0 : 0 < a' := by
    rcases Nat.eq_zero_or_pos a' with h | h
    · rw [h] at ea'; omega
    · exact h
  have r1 : Red (X / k) (a' * (bd / k)) N (ad * bd) := ⟨hl.1, Nat.mul_pos ha0 (Nat.div_pos (Nat.le_of_dvd p2 hkb) hk0), by rw [hN]; exact hl.2⟩
  have r2 := Red.of N hD
  exact Red.unique hD r2 r1

/-- what join's walk asks, of the number X over the common divisor, made of its words -/
theorem join_of {minus : Bool} {F : Nat} (an ad bn bd : Nat) (h1 : an ≤ 9223372036854775807) (h2 : ad ≤ 9223372036854775807) (h3 : bn ≤ 9223372036854775807) (h4 : bd ≤ 9223372036854775807)
    (p1 : 0 < ad) (p2 : 0 < bd) (ha : Nat.gcd an ad = 1) (hb : Nat.gcd bn bd = 1) (X a' b' : Nat) (ea : a' = ad / Nat.gcd ad bd) (eb : b' = bd / Nat.gcd ad bd)
    (hx : X + bn * a' = an * b' ∨ X = an * b' + bn * a') (hX : X < 340282366920938463463374607431768211456)
    (cy c2 : Nat)
    (s1 : ∀ W, (callFunc F #[.int .u64 ((an * b' % 18446744073709551616 : Nat) : Int), .int .u64 ((bn * a' % 18446744073709551616 : Nat) : Int), .int .u64 0]).run Tryd.prog W = .ok (.value (.tuple #[.int .u64 ((X % 18446744073709551616 : Nat) : Int), .int .u64 cy])) W)
    (s2 : ∀ W, (callFunc F #[.int .u64 ((an * b' / 18446744073709551616 : Nat) : Int), .int .u64 ((bn * a' / 18446744073709551616 : Nat) : Int), .int .u64 cy]).run Tryd.prog W = .ok (.value (.tuple #[.int .u64 ((X / 18446744073709551616 : Nat) : Int), .int .u64 c2])) W)
    (hF : (F = 52 ∧ minus = false) ∨ (F = 51 ∧ minus = true)) (w : World) :
    Calls Tryd.prog 43 #[.agg #[.int .i64 an, .int .i64 ad], .agg #[.int .i64 bn, .int .i64 bd], .bool minus] w fun e w' =>
      e = .returned (redV (Nat.gcd ad bd * X) (ad * bd)) ∧ Only [] w w' := by
  have lg : Nat.gcd ad bd ≤ ad := Nat.gcd_le_left _ p1
  have hg0 : 0 < Nat.gcd ad bd := Nat.gcd_pos_of_pos_left _ p1
  generalize hg : Nat.gcd ad bd = g at *
  have la : a' ≤ ad := ea ▸ Nat.div_le_self _ _
  have lb : b' ≤ bd := eb ▸ Nat.div_le_self _ _
  have lh : X / 18446744073709551616 < 18446744073709551616 := by omega
  have ll : X % 18446744073709551616 < 18446744073709551616 := by omega
  have hXX : X / 18446744073709551616 * 18446744073709551616 + X % 18446744073709551616 = X := Nat.div_add_mod' X 18446744073709551616
  generalize X / 18446744073709551616 = hi at *
  generalize X % 18446744073709551616 = lo at *
  obtain ⟨rs, hrs⟩ : ∃ t, t = (hi % g * 18446744073709551616 + lo) % g := ⟨_, rfl⟩
  have hrs2 : rs = X % g := by rw [hrs, ← hXX, Nat.add_mod, Nat.mod_mul_mod, ← Nat.add_mod]
  have lrs : rs < g := by rw [hrs]; exact Nat.mod_lt _ hg0
  obtain ⟨k, hk⟩ : ∃ k, k = Nat.gcd rs g := ⟨_, rfl⟩
  have hk2 : k = Nat.gcd X g := by rw [hk, hrs2, Nat.gcd_comm X g, Nat.gcd_rec g X]
  have lk : k ≤ g := by rw [hk]; exact Nat.gcd_le_right _ hg0
  have k0 : 0 < k := by rw [hk]; exact Nat.gcd_pos_of_pos_right _ hg0
  have v1 : ∀ W, Calls Tryd.prog 53 #[.int .u64 ((hi : Int) % g), .int .u64 lo, .int .u64 g] W fun e w' => e = .returned (.tuple #[.int .u64 (((hi % g * 18446744073709551616 + lo) / g : Nat) : Int), .int .u64 rs]) ∧ ∃ n, w' = W.drewN n := by
    intro W
    have := div_n (hi := hi % g) ll (by omega) rfl (Nat.mod_lt _ hg0) rfl hrs W
    simpa using this
  have v3 : hi < k → ∀ W, Calls Tryd.prog 53 #[.int .u64 hi, .int .u64 lo, .int .u64 k] W fun e w' => e = .returned (.tuple #[.int .u64 ((X / k : Nat) : Int), .int .u64 ((X % k : Nat) : Int)]) ∧ ∃ n, w' = W.drewN n :=
    fun hlt W => div_n ll (by omega) rfl hlt (by rw [hXX]) (by rw [hXX]) W
  have hred := red_join ha hb p1 p2 hg.symm ea eb hx rfl hk2
  have hval : redV (g * X) (ad * bd) = fitV (X / k) (a' * (bd / k)) := by unfold redV; rw [hred.1, hred.2]
  rw [hval]
  have lbk : bd / k ≤ bd := Nat.div_le_self _ _
  have hq : hi < k → X / k < 18446744073709551616 := fun h => by
    refine (Nat.div_lt_iff_lt_mul k0).2 ?_
    rw [← hXX]
    have : (hi + 1) * 18446744073709551616 ≤ k * 18446744073709551616 := Nat.mul_le_mul_right _ h
    omega
  have wa := w_quo ad g a' (by omega) ea
  have wb := w_quo bd g b' (by omega) eb
  have wk := w_quo bd k (bd / k) (by omega) rfl
  rcases Nat.lt_or_ge hi k with hlt | hge
  · by_cases hd : a' * (bd / k) / 18446744073709551616 = 0
    · have ld : a' * (bd / k) < 18446744073709551616 := by omega
      have em : a' * (bd / k) % 18446744073709551616 = a' * (bd / k) := Nat.mod_eq_of_lt ld
      have q3 := fun W => product_n (a := a') (b := bd / k) (by omega) (by omega) hd.symm em.symm W
      rcases hF with ⟨rfl, rfl⟩ | ⟨rfl, rfl⟩
      · exact join_add_fits an ad bn bd g a' b' (an * b' / 18446744073709551616) (an * b' % 18446744073709551616) (bn * a' / 18446744073709551616) (bn * a' % 18446744073709551616) lo hi cy c2 _ rs k _ _ _ _ _ h1 h2 h3 h4 hg0 (by omega) k0 lk lh (hq hlt) ld wa wb wk (fun W => divisor_n (by omega) (by omega) hg.symm W) (fun W => product_n (by omega) (by omega) rfl rfl W) (fun W => product_n (by omega) (by omega) rfl rfl W) s1 s2 v1 (fun W => divisor_n (by omega) (by omega) hk W) v3 q3 hlt rfl w
      · exact join_sub_fits an ad bn bd g a' b' (an * b' / 18446744073709551616) (an * b' % 18446744073709551616) (bn * a' / 18446744073709551616) (bn * a' % 18446744073709551616) lo hi cy c2 _ rs k _ _ _ _ _ h1 h2 h3 h4 hg0 (by omega) k0 lk lh (hq hlt) ld wa wb wk (fun W => divisor_n (by omega) (by omega) hg.symm W) (fun W => product_n (by omega) (by omega) rfl rfl W) (fun W => product_n (by omega) (by omega) rfl rfl W) s1 s2 v1 (fun W => divisor_n (by omega) (by omega) hk W) v3 q3 hlt rfl w
    · have q3 := fun W => product_n (a := a') (b := bd / k) (by omega) (by omega) rfl rfl W
      have hbig : fitV (X / k) (a' * (bd / k)) = .tuple #[.agg #[.int .i64 0, .int .i64 0], .int .i64 2] := by
        unfold fitV
        rw [if_pos]
        unfold mostI
        omega
      rw [hbig]
      rcases hF with ⟨rfl, rfl⟩ | ⟨rfl, rfl⟩
      · exact join_add_large2 an ad bn bd g a' b' (an * b' / 18446744073709551616) (an * b' % 18446744073709551616) (bn * a' / 18446744073709551616) (bn * a' % 18446744073709551616) lo hi cy c2 _ rs k _ _ _ _ _ h1 h2 h3 h4 hg0 (by omega) k0 lk lh (hq hlt) (Nat.mod_lt _ (by omega)) wa wb wk (fun W => divisor_n (by omega) (by omega) hg.symm W) (fun W => product_n (by omega) (by omega) rfl rfl W) (fun W => product_n (by omega) (by omega) rfl rfl W) s1 s2 v1 (fun W => divisor_n (by omega) (by omega) hk W) v3 q3 hlt hd w
      · exact join_sub_large2 an ad bn bd g a' b' (an * b' / 18446744073709551616) (an * b' % 18446744073709551616) (bn * a' / 18446744073709551616) (bn * a' % 18446744073709551616) lo hi cy c2 _ rs k _ _ _ _ _ h1 h2 h3 h4 hg0 (by omega) k0 lk lh (hq hlt) (Nat.mod_lt _ (by omega)) wa wb wk (fun W => divisor_n (by omega) (by omega) hg.symm W) (fun W => product_n (by omega) (by omega) rfl rfl W) (fun W => product_n (by omega) (by omega) rfl rfl W) s1 s2 v1 (fun W => divisor_n (by omega) (by omega) hk W) v3 q3 hlt hd w
  · have q3 := fun W => product_n (a := a') (b := bd / k) (by omega) (by omega) rfl rfl W
    have hbig : fitV (X / k) (a' * (bd / k)) = .tuple #[.agg #[.int .i64 0, .int .i64 0], .int .i64 2] := by
      have : 18446744073709551616 ≤ X / k := by
        refine (Nat.le_div_iff_mul_le k0).2 ?_
        rw [← hXX]
        have : 18446744073709551616 * k ≤ 18446744073709551616 * hi := Nat.mul_le_mul_left _ hge
        omega
      unfold fitV
      rw [if_pos]
      unfold mostI
      omega
    rw [hbig]
    rcases hF with ⟨rfl, rfl⟩ | ⟨rfl, rfl⟩
    · exact join_add_large1 an ad bn bd g a' b' (an * b' / 18446744073709551616) (an * b' % 18446744073709551616) (bn * a' / 18446744073709551616) (bn * a' % 18446744073709551616) lo hi cy c2 _ rs k 0 0 _ _ _ h1 h2 h3 h4 hg0 (by omega) k0 lk lh (by omega) (Nat.mod_lt _ (by omega)) wa wb wk (fun W => divisor_n (by omega) (by omega) hg.symm W) (fun W => product_n (by omega) (by omega) rfl rfl W) (fun W => product_n (by omega) (by omega) rfl rfl W) s1 s2 v1 (fun W => divisor_n (by omega) (by omega) hk W) (fun h => absurd h (by omega)) q3 hge w
    · exact join_sub_large1 an ad bn bd g a' b' (an * b' / 18446744073709551616) (an * b' % 18446744073709551616) (bn * a' / 18446744073709551616) (bn * a' % 18446744073709551616) lo hi cy c2 _ rs k 0 0 _ _ _ h1 h2 h3 h4 hg0 (by omega) k0 lk lh (by omega) (Nat.mod_lt _ (by omega)) wa wb wk (fun W => divisor_n (by omega) (by omega) hg.symm W) (fun W => product_n (by omega) (by omega) rfl rfl W) (fun W => product_n (by omega) (by omega) rfl rfl W) s1 s2 v1 (fun W => divisor_n (by omega) (by omega) hk W) (fun h => absurd h (by omega)) q3 hge w

theorem mul_le_words {a b : Nat} (h1 : a ≤ 9223372036854775807) (h2 : b ≤ 9223372036854775807) : a * b ≤ 85070591730234615847396907784232501249 :=
  Nat.le_trans (Nat.mul_le_mul h1 h2) (by decide)

theorem join_add (an ad bn bd : Nat) (h1 : an ≤ 9223372036854775807) (h2 : ad ≤ 9223372036854775807) (h3 : bn ≤ 9223372036854775807) (h4 : bd ≤ 9223372036854775807)
    (p1 : 0 < ad) (p2 : 0 < bd) (ha : Nat.gcd an ad = 1) (hb : Nat.gcd bn bd = 1) (w : World) :
    Calls Tryd.prog 43 #[.agg #[.int .i64 an, .int .i64 ad], .agg #[.int .i64 bn, .int .i64 bd], .bool false] w fun e w' =>
      e = .returned (redV (an * bd + bn * ad) (ad * bd)) ∧ Only [] w w' := by
  have e1 : ad = ad / Nat.gcd ad bd * Nat.gcd ad bd := (Nat.div_mul_cancel (Nat.gcd_dvd_left _ _)).symm
  have e2 : bd = bd / Nat.gcd ad bd * Nat.gcd ad bd := (Nat.div_mul_cancel (Nat.gcd_dvd_right _ _)).symm
  have b1 := mul_le_words h1 (Nat.le_trans (Nat.div_le_self bd (Nat.gcd ad bd)) h4)
  have b2 := mul_le_words h3 (Nat.le_trans (Nat.div_le_self ad (Nat.gcd ad bd)) h2)
  have aw := add_words (an * (bd / Nat.gcd ad bd)) (bn * (ad / Nat.gcd ad bd)) (by omega)
  have j := join_of (F := 52) (minus := false) an ad bn bd h1 h2 h3 h4 p1 p2 ha hb (an * (bd / Nat.gcd ad bd) + bn * (ad / Nat.gcd ad bd)) _ _ rfl rfl (.inr rfl) (by omega) _ _
    (fun W => by rw [← aw.1]; exact add64 _ _ 0 (by omega) W)
    (fun W => by rw [← aw.2]; exact add64 _ _ _ (by omega) W) (.inl ⟨rfl, rfl⟩) w
  have en : Nat.gcd ad bd * (an * (bd / Nat.gcd ad bd) + bn * (ad / Nat.gcd ad bd)) = an * bd + bn * ad := by
    generalize Nat.gcd ad bd = g at *
    generalize ad / g = a' at *
    generalize bd / g = b' at *
    subst e1 e2
    grind
  rw [en] at j
  exact j

theorem join_sub (an ad bn bd : Nat) (h1 : an ≤ 9223372036854775807) (h2 : ad ≤ 9223372036854775807) (h3 : bn ≤ 9223372036854775807) (h4 : bd ≤ 9223372036854775807)
    (p1 : 0 < ad) (p2 : 0 < bd) (ha : Nat.gcd an ad = 1) (hb : Nat.gcd bn bd = 1) (hle : bn * ad ≤ an * bd) (w : World) :
    Calls Tryd.prog 43 #[.agg #[.int .i64 an, .int .i64 ad], .agg #[.int .i64 bn, .int .i64 bd], .bool true] w fun e w' =>
      e = .returned (redV (an * bd - bn * ad) (ad * bd)) ∧ Only [] w w' := by
  have e1 : ad = ad / Nat.gcd ad bd * Nat.gcd ad bd := (Nat.div_mul_cancel (Nat.gcd_dvd_left _ _)).symm
  have e2 : bd = bd / Nat.gcd ad bd * Nat.gcd ad bd := (Nat.div_mul_cancel (Nat.gcd_dvd_right _ _)).symm
  have b1 := mul_le_words h1 (Nat.le_trans (Nat.div_le_self bd (Nat.gcd ad bd)) h4)
  have b2 := mul_le_words h3 (Nat.le_trans (Nat.div_le_self ad (Nat.gcd ad bd)) h2)
  have hg0 : 0 < Nat.gcd ad bd := Nat.gcd_pos_of_pos_left _ p1
  have f1 : an * bd = Nat.gcd ad bd * (an * (bd / Nat.gcd ad bd)) := by
    generalize Nat.gcd ad bd = g at *
    generalize bd / g = b' at *
    rw [e2]; grind
  have f2 : bn * ad = Nat.gcd ad bd * (bn * (ad / Nat.gcd ad bd)) := by
    generalize Nat.gcd ad bd = g at *
    generalize ad / g = a' at *
    rw [e1]; grind
  have hle2 : bn * (ad / Nat.gcd ad bd) ≤ an * (bd / Nat.gcd ad bd) := by
    rw [f1, f2] at hle
    exact Nat.le_of_mul_le_mul_left hle hg0
  have aw := sub_words (an * (bd / Nat.gcd ad bd)) (bn * (ad / Nat.gcd ad bd)) hle2 (by omega)
  have j := join_of (F := 51) (minus := true) an ad bn bd h1 h2 h3 h4 p1 p2 ha hb (an * (bd / Nat.gcd ad bd) - bn * (ad / Nat.gcd ad bd)) _ _ rfl rfl (.inl (by omega)) (by omega) _ _
    (fun W => by rw [← aw.1]; exact sub64 _ _ 0 (by omega) W)
    (fun W => by rw [← aw.2]; exact sub64 _ _ _ (by split <;> omega) W) (.inr ⟨rfl, rfl⟩) w
  rw [Nat.mul_sub, ← f1, ← f2] at j
  exact j

end Go.Proofs.YtoefekgfklillaaDoor
