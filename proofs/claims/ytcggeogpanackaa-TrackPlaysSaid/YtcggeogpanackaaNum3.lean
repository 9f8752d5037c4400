/- The reference's numbers, walked: Mul. -/
import Derived.Test.YtcggeogpanackaaNum2
namespace Go.Proofs.Ytcggeogpanackaa
open Go.RowKit Go.Kx
set_option maxRecDepth 20000

theorem intsV_set (l : List Nat) (j x : Nat) : (intsV l).toArray.setIfInBounds j (.int .i64 (x : Int)) = (intsV (l.set j x)).toArray := by
  simp [intsV, List.map_set]
theorem intsV_at {l : List Nat} {j d : Nat} (h : l[j]? = some d) : (intsV l).toArray[j]? = some (.int .i64 (d : Int)) := by
  simp [intsV, h]
theorem zeros_ints (n : Nat) : zeros (.int .i64 0) n = (intsV (List.replicate n 0)).toArray := by
  simp [zeros, intsV]
theorem mod_pow_succ_mul (a b i : Nat) : (a % 10000 ^ i) * b + a / 10000 ^ i % 10000 * b * 10000 ^ i = (a % 10000 ^ (i + 1)) * b := by
  rw [Nat.pow_succ, Nat.mod_mul]
  generalize 10000 ^ i = P
  generalize a / P % 10000 = x
  generalize a % P = y
  grind

/-- one place more of an inner round -/
theorem mul_inner {a b i k c d x y : Nat} {l : List Nat} {lj : Nat} (hx : x = a / 10000 ^ i % 10000) (hy : y = b / 10000 ^ k % 10000) (hl : l[i + k]? = some lj) (hd : d = lj + c + x * y)
    (he : dv l + c * 10000 ^ (i + k) = (a % 10000 ^ i) * b + x * (b % 10000 ^ k) * 10000 ^ i) :
    dv (l.set (i + k) (d % 10000)) + d / 10000 * 10000 ^ (i + (k + 1)) = (a % 10000 ^ i) * b + x * (b % 10000 ^ (k + 1)) * 10000 ^ i := by
  obtain ⟨h, e⟩ := List.getElem?_eq_some_iff.1 hl
  have m := mul_step (l := l) (j := i + k) (c := c) (d := d) x y h (by rw [hd, e])
  rw [show i + (k + 1) = i + k + 1 by omega, m, he, Nat.pow_succ 10000 k, Nat.mod_mul, ← hy, Nat.pow_add]
  generalize 10000 ^ i = P
  generalize 10000 ^ k = Q
  grind
theorem mul_room {a b i k c lb : Nat} {V : Nat} (hc : 0 < c) (hb : b < 10000 ^ lb) (he : V + c * 10000 ^ (i + k) = (a % 10000 ^ i) * b + a / 10000 ^ i % 10000 * b * 10000 ^ i) : k ≤ lb := by
  rw [mod_pow_succ_mul] at he
  rcases Nat.lt_or_ge lb k with h | h
  · have h1 : a % 10000 ^ (i + 1) < 10000 ^ (i + 1) := Nat.mod_lt _ (pow_pos_ _)
    have h2 : 10000 ^ (i + 1 + lb) ≤ 10000 ^ (i + k) := Nat.pow_le_pow_right (by omega) (by omega)
    have h3 : (a % 10000 ^ (i + 1)) * b < 10000 ^ (i + 1) * 10000 ^ lb := by
      rcases Nat.eq_zero_or_pos b with h0 | h0
      · subst h0; rw [Nat.mul_zero]; exact Nat.mul_pos (pow_pos_ _) (pow_pos_ _)
      · exact Nat.lt_of_lt_of_le (Nat.mul_lt_mul_of_pos_right h1 h0) (Nat.mul_le_mul_left _ (Nat.le_of_lt hb))
    rw [← Nat.pow_add] at h3
    have h4 : 10000 ^ (i + k) ≤ c * 10000 ^ (i + k) := Nat.le_mul_of_pos_left _ hc
    omega
  · exact h

set_option maxHeartbeats 4000000 in
theorem muln_any {a b : Nat} {w : World} {x y : Value} (hx : Nm w x a) (hy : Nm w y b) (ha : (toD a).length ≤ 400) (hb : (toD b).length ≤ 400) :
    Calls Try.prog 55 #[x, y] w fun e w' => ∃ v, e = .returned v ∧ Nm w' v (a * b) ∧ Only [] w w' := by
  obtain ⟨A, ca, rfl, nA, _⟩ := hx
  obtain ⟨B, cb, rfl, nB, _⟩ := hy
  have NA := Lib.hid nA
  have NB := Lib.hid nB
  have HLb := Lib.hid (lt_pow_len b)
  have HLa := Lib.hid (lt_pow_len a)
  clear nA nB
  obtain ⟨N, hN⟩ : ∃ N, N = (toD a).length + (toD b).length + 1 := ⟨_, rfl⟩
  have hmk : ∀ W : World, (Instr.makeSlice 84 (.int .i64 (((toD a).length : Int) + ((toD b).length : Int) + 1)) (.int .i64 (((toD a).length : Int) + ((toD b).length : Int) + 1))).run Try.prog W = .ok (.slice (some ⟨W.heap.size, 0, none⟩) N N) (W.alloc (.cells (intsV (List.replicate N 0)).toArray 3)) := by
    intro W
    have h := run_make_one (P := Try.prog) 84 3 Try.underlying84 (z := .int .i64 0) (bytes := 8) (by kernel_rfl) rfl .i64 .i64 N (by omega) (by omega) W
    rw [zeros_ints] at h
    rw [← h, show ((N : Nat) : Int) = ((toD a).length : Int) + ((toD b).length : Int) + 1 by omega]
  have HN := Lib.hid hN
  have hN2 : N ≤ 1000 := by omega
  have hN3 : (toD a).length + (toD b).length < N := by omega
  clear hN
  go_enter Try.func55, Try.ntmps55
  go_wp2_with (fail)
  clear hmk
  go_loopw [6] (fun i wr => ∃ k : Nat, ∃ l : List Nat, i = .int .i64 k ∧ k ≤ (toD a).length ∧ l.length = N ∧ (∀ d ∈ l, d < 10000) ∧ dv l = (a % 10000 ^ k) * b ∧ Blk wr w.heap.size 3 (intsV l).toArray ∧ Only [] w wr) (fun i _ => (toD a).length - (intOf i).toNat)
  case atStart => exact ⟨0, List.replicate N 0, rfl, Nat.zero_le _, by simp, fun d hd => by rw [(List.mem_replicate.1 hd).2]; omega, by rw [dv_zeros, Nat.pow_zero, Nat.mod_one, Nat.zero_mul], Blk.new _ _ _, (Only.refl [] w).alloc _⟩
  case round =>
    obtain ⟨i, l, rfl, hi, hll, hld, hlv, hbk, ho⟩ := hrel
    by_cases hlt : i < (toD a).length
    · obtain ⟨wo, rfl⟩ : ∃ wo : World, wo = wr := ⟨_, rfl⟩
      have HL := Lib.hid (And.intro hll (And.intro hld hlv))
      have HB := Lib.hid hbk
      have HO := Lib.hid ho
      clear hll hld hlv hbk ho
      go_wp2_with (fail)
      go_loopw [7, 8] (fun c k wr => ∃ j cy : Nat, ∃ l : List Nat, k = .int .i64 j ∧ c = .int .i64 cy ∧ cy < 10000 ∧ j ≤ (toD b).length + 1 ∧ l.length = N ∧ (∀ d ∈ l, d < 10000) ∧
          dv l + cy * 10000 ^ (i + j) = (a % 10000 ^ i) * b + a / 10000 ^ i % 10000 * (b % 10000 ^ j) * 10000 ^ i ∧ Blk wr w.heap.size 3 (intsV l).toArray ∧ Only [] w wr) (fun _ k _ => (toD b).length + 1 - (intOf k).toNat)
      case atStart => exact ⟨0, 0, l, rfl, rfl, by omega, by omega, HL.out.1, HL.out.2.1, by rw [HL.out.2.2, Nat.pow_zero, Nat.mod_one]; simp, HB.out, HO.out⟩
      case round =>
        obtain ⟨j, cy, l, rfl, rfl, hcy, hj, hll, hld, hlv, hbk, ho⟩ := hrel
        clear HL HB HO
        have hai := Nat.mod_lt (a / 10000 ^ i) (show 0 < 10000 by omega)
        have hbj := Nat.mod_lt (b / 10000 ^ j) (show 0 < 10000 by omega)
        have hbm : (toD b).length ≤ j → b % 10000 ^ j = b := fun h => Nat.mod_eq_of_lt (lt_pow_of_len_le h)
        have hroom : (toD b).length ≤ j → 0 < cy → j ≤ (toD b).length := fun h1 h2 => by
          rw [hbm h1] at hlv
          exact mul_room h2 HLb.out hlv
        have hdz : (toD b).length ≤ j → b / 10000 ^ j % 10000 = 0 := digit_zero
        have step := fun (lj d y : Nat) (h1 : y = b / 10000 ^ j % 10000) (h2 : l[i + j]? = some lj) (h3 : d = lj + cy + a / 10000 ^ i % 10000 * y) => mul_inner rfl h1 h2 h3 hlv
        have fin : (toD b).length ≤ j → cy = 0 → dv l = (a % 10000 ^ (i + 1)) * b := fun h1 h2 => by
          rw [hbm h1, mod_pow_succ_mul, h2] at hlv
          simpa using hlv
        obtain ⟨ba, oa, rfl, hba, c0⟩ := (NA.out.only ho) i _ (toD_some hlt)
        have cb0 : j < (toD b).length → ∃ bb o, B = some ⟨bb, o, none⟩ ∧ wr.cell? ⟨bb, o + j, none⟩ = some (.int .i64 ((b / 10000 ^ j % 10000 : Nat) : Int)) := fun h => by
          obtain ⟨bb, o, e, _, c0⟩ := (NB.out.only ho) j _ (toD_some h)
          exact ⟨bb, o, e, c0⟩
        have HLD := Lib.hid hld
        have HB := Lib.hid hbk
        have HO := Lib.hid ho
        clear hlv hbm hld ho
        generalize a / 10000 ^ i % 10000 = ai at *
        generalize b / 10000 ^ j % 10000 = bj at *
        have hprod : ai * bj ≤ 9999 * 9999 := Nat.mul_le_mul (by omega) (by omega)
        by_cases h1 : j < (toD b).length ∨ 0 < cy
        · have hij : i + j < N := by
            rcases Nat.lt_or_ge j (toD b).length with h | h
            · omega
            · have := hroom h (by omega); omega
          have hj2 : j ≤ (toD b).length := by
            rcases Nat.lt_or_ge j (toD b).length with h | h
            · omega
            · exact hroom h (by omega)
          obtain ⟨lj, hlj⟩ : ∃ x, l[i + j]? = some x := ⟨_, List.getElem?_eq_getElem (by omega)⟩
          have hljb := HLD.out lj (List.mem_of_getElem? hlj)
          have cl := hbk.cell (i + j)
          rw [intsV_at hlj] at cl
          have fl := hbk.frozen (i + j)
          have e1 : ((i : Int) + (j : Int)).toNat = i + j := by omega
          have newdig : ∀ d : Nat, ∀ z ∈ l.set (i + j) (d % 10000), z < 10000 := fun d z hz => by
            rcases List.mem_or_eq_of_mem_set hz with h | h
            · exact HLD.out z h
            · rw [h]; exact Nat.mod_lt _ (by omega)
          have ND := Lib.hid newdig
          have hnlt : (i : Int) + (j : Int) < (N : Int) := by omega
          clear hroom fin newdig hbk
          by_cases h2 : j < (toD b).length
          · obtain ⟨bb, ob, rfl, c1⟩ := cb0 h2
            have ST := Lib.hid (step lj (lj + cy + ai * bj) bj rfl hlj rfl)
            have hdb : lj + cy + ai * bj < 100000000 := by omega
            have hp1 : (0 : Int) ≤ (ai : Int) * bj := by rw [← Int.natCast_mul]; omega
            have hp2 : (ai : Int) * bj ≤ 99980001 := by rw [← Int.natCast_mul]; omega
            have hw1 : IntKind.i64.wrap ((ai : Int) * bj) = (ai : Int) * bj := IntWalk.i64_in _ (by omega)
            have hw2 : IntKind.i64.wrap ((lj : Int) + cy + (ai : Int) * bj) = (lj : Int) + cy + (ai : Int) * bj := IntWalk.i64_in _ (by omega)
            clear step cb0 hdz hlj h1
            have t1 : decide ((j : Int) < ((toD b).length : Int)) = true := by simp; omega
            go_wp2_with (fail)
            go_quiet (fail)
            clear hw1 hw2
            go_wp2_with (fail)
            go_roundw
            case rel => exact ⟨j + 1, (lj + cy + ai * bj) / 10000, l.set (i + j) ((lj + cy + ai * bj) % 10000), by go_num, rfl, by omega, by omega, by rw [List.length_set]; exact hll, ND.out _, ST.out, by rw [← intsV_set]; exact (HB.out.set_ (i + j) _).drewN _, (HO.out.setCell (.inr (by simp)) _).drewN _⟩
            case measure => simp [intOf]; omega
          · obtain rfl := hdz (by omega)
            have ST := Lib.hid (step lj (lj + cy) 0 rfl hlj (by omega))
            clear step cb0 hdz hlj hprod
            have t1 : decide ((j : Int) < ((toD b).length : Int)) = false := by simp; omega
            have h4 : 0 < cy := by omega
            have t2 : decide ((0 : Int) < (cy : Int)) = true := by simp; omega
            clear h1
            go_wp2_with (fail)
            go_roundw
            case rel => exact ⟨j + 1, (lj + cy) / 10000, l.set (i + j) ((lj + cy) % 10000), by go_num, rfl, by omega, by omega, by rw [List.length_set]; exact hll, ND.out _, ST.out, by rw [← intsV_set]; exact HB.out.set_ (i + j) _, HO.out.setCell (.inr (by simp)) _⟩
            case measure => simp [intOf]; omega
        · have h1a : (toD b).length ≤ j := by omega
          have h1b : cy = 0 := by omega
          have FN := Lib.hid (fin h1a h1b)
          have t1 : decide ((j : Int) < ((toD b).length : Int)) = false := by simp; omega
          have t2 : decide ((0 : Int) < (cy : Int)) = false := by simp; omega
          clear step cb0 hdz hroom fin h1 hbk
          go_wp2_with (fail)
          go_roundw
          case rel => exact ⟨i + 1, l, by go_num, by omega, hll, HLD.out, FN.out, HB.out, HO.out⟩
          case measure => simp [intOf]; omega
    · obtain rfl : i = (toD a).length := by omega
      rw [Nat.mod_eq_of_lt HLa.out] at hlv
      have HB := Lib.hid hbk
      have HO := Lib.hid ho
      have nN : Nums wr (some ⟨w.heap.size, 0, none⟩) l := fun i d hd => ⟨w.heap.size, 0, rfl, HB.out.lt, by rw [HB.out.cell, Nat.zero_add]; exact intsV_at hd⟩
      have tr := trim_any (c := N) nN hld (by omega) (by unfold maxLen; omega) (by omega)
      rw [hlv, hll] at tr
      have TR := Lib.hid tr
      clear hlv hld hbk ho nN tr
      go_wp2_with (fail)
      refine TR.out.mono ?_
      rintro e w1 ⟨v, rfl, hv, o1⟩
      have HV := Lib.hid hv
      have O1 := Lib.hid o1
      clear hv o1
      go_wp2_with (fail)
      go_ret
      exact ⟨_, rfl, HV.out, HO.out.trans O1.out (by simp)⟩
end Go.Proofs.Ytcggeogpanackaa
