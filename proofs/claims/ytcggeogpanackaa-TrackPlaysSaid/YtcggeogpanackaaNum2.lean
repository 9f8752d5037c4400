/- The reference's numbers, walked: Add, Sub. -/
import Derived.Test.YtcggeogpanackaaNum1
namespace Go.Proofs.Ytcggeogpanackaa
open Go.RowKit Go.Kx
set_option maxRecDepth 20000

theorem pow_le_of_lt_len {n k : Nat} (h : k < (toD n).length) : 10000 ^ k ≤ n := (toD_len n k).1 h
theorem lt_pow_of_len_le {n k : Nat} (h : (toD n).length ≤ k) : n < 10000 ^ k :=
  Nat.lt_of_lt_of_le (lt_pow_len n) (Nat.pow_le_pow_right (by omega) h)
theorem digit_zero {n k : Nat} (h : (toD n).length ≤ k) : n / 10000 ^ k % 10000 = 0 := by
  rw [Nat.div_eq_of_lt (lt_pow_of_len_le h)]

theorem add_push {a b k d : Nat} {w wr : World} {v : Value} (ho : Out w wr v (firstD (a + b) k)) (hk : k ≤ 1001) (hd : d = a / 10000 ^ k % 10000 + b / 10000 ^ k % 10000 + carryD a b k) (hl : 10000 ^ k ≤ a + b) :
    ∃ v' w1, (Builtin.append_ #[84, 84] 84 #[v, .slice (some ⟨wr.heap.size, 0, none⟩) 1 1]).run Try.prog (wr.alloc (.cells #[.int .i64 ((d % 10000 : Nat) : Int)] 3)) = .ok v' w1 ∧
      Hid (((d / 10000 : Nat) : Int) = ((carryD a b (k + 1) : Nat) : Int) ∧ (k + 1 = 0 ∨ 10000 ^ (k + 1 - 1) ≤ a + b) ∧ k + 1 ≤ 2000 ∧ Out w w1 v' (firstD (a + b) (k + 1))) := by
  obtain ⟨v', w1, h1, h2, _⟩ := ho.run (by rw [firstD_length]; omega) (d % 10000)
  refine ⟨v', w1, h1, ?_, .inr (by simpa using hl), by omega, ?_⟩
  · rw [carryD_succ, hd]
  · rw [firstD_succ, ← carryD_digit, ← hd]; exact h2
theorem add_bound {a b k : Nat} (ha : (toD a).length ≤ 1000) (hb : (toD b).length ≤ 1000) (h : k < (toD a).length ∨ k < (toD b).length ∨ 0 < carryD a b k) : 10000 ^ k ≤ a + b ∧ k ≤ 1001 := by
  have h1 : 10000 ^ k ≤ a + b := carryD_low (h.imp pow_le_of_lt_len (Or.imp pow_le_of_lt_len id))
  refine ⟨h1, ?_⟩
  have h2 := lt_pow_len a
  have h3 := lt_pow_len b
  rcases Nat.lt_or_ge 1001 k with h4 | h4
  · have e2 : 10000 ^ (k - 1) * 10000 = 10000 ^ k := by rw [← Nat.pow_succ]; congr 1; omega
    have e3 : 10000 ^ (toD a).length ≤ 10000 ^ (k - 1) := Nat.pow_le_pow_right (by omega) (by omega)
    have e4 : 10000 ^ (toD b).length ≤ 10000 ^ (k - 1) := Nat.pow_le_pow_right (by omega) (by omega)
    generalize 10000 ^ (k - 1) = P at *
    generalize 10000 ^ (toD a).length = P1 at *
    generalize 10000 ^ (toD b).length = P2 at *
    omega
  · exact h4
theorem add_done {a b k : Nat} {w wr : World} {v : Value} (ho : Out w wr v (firstD (a + b) k)) (h1 : (toD a).length ≤ k) (h2 : (toD b).length ≤ k) (h3 : carryD a b k = 0) (hlow : k = 0 ∨ 10000 ^ (k - 1) ≤ a + b) :
    Nm wr v (a + b) ∧ Only [] w wr := ⟨ho.nm (firstD_eq (carryD_end (lt_pow_of_len_le h1) (lt_pow_of_len_le h2) h3) hlow), ho.2.2⟩

theorem sub_push {a b k d : Nat} {w wr : World} {v : Value} (ho : Out w wr v (firstD (a - b) k)) (hk : k ≤ 1001) (hd : d = (a - b) / 10000 ^ k % 10000) :
    ∃ v' w1, (Builtin.append_ #[84, 84] 84 #[v, .slice (some ⟨wr.heap.size, 0, none⟩) 1 1]).run Try.prog (wr.alloc (.cells #[.int .i64 (d : Int)] 3)) = .ok v' w1 ∧ Hid (Out w w1 v' (firstD (a - b) (k + 1))) := by
  obtain ⟨v', w1, h1, h2, _⟩ := ho.run (by rw [firstD_length]; omega) d
  exact ⟨v', w1, h1, by rw [firstD_succ, ← hd]; exact h2⟩

set_option maxHeartbeats 4000000 in
theorem subn_any {a b : Nat} {w : World} {x y : Value} (hx : Nm w x a) (hy : Nm w y b) (ha : (toD a).length ≤ 1000) (hb : (toD b).length ≤ 1000) (hle : b ≤ a) :
    Calls Try.prog 60 #[x, y] w fun e w' => ∃ v, e = .returned v ∧ Nm w' v (a - b) ∧ Only [] w w' := by
  obtain ⟨A, ca, rfl, nA, _⟩ := hx
  obtain ⟨B, cb, rfl, nB, _⟩ := hy
  have NA := Lib.hid nA
  have NB := Lib.hid nB
  have HLE := Lib.hid hle
  clear nA nB hle
  go_enter Try.func60, Try.ntmps60
  go_wp2_with (fail)
  go_loopw [5, 6, 7] (fun v c i wr => ∃ k : Nat, i = .int .i64 k ∧ c = .int .i64 ((borrowD a b k : Nat) : Int) ∧ k ≤ (toD a).length ∧ Out w wr v (firstD (a - b) k)) (fun _ _ i _ => (toD a).length - (intOf i).toNat)
  case atStart => exact ⟨0, rfl, by rw [borrowD_zero]; rfl, by omega, Out.start w w (Only.refl _ _)⟩
  case round =>
    obtain ⟨k, rfl, rfl, hk, ho⟩ := hrel
    have hbl := borrowD_le a b k
    have bst := borrow_step (k := k) HLE.out
    have push := fun (d : Nat) (hd : d = (a - b) / 10000 ^ k % 10000) => sub_push ho (by omega) hd
    have done_ : k = (toD a).length → dv (firstD (a - b) k) = a - b := fun h => by
      rw [dv_firstD, Nat.mod_eq_of_lt]
      have := lt_pow_len a
      rw [h]; omega
    have HO := Lib.hid ho
    have hdb : (toD b).length ≤ k → b / 10000 ^ k % 10000 = 0 := digit_zero
    have hla := Nat.mod_lt (a / 10000 ^ k) (show 0 < 10000 by omega)
    have hlb := Nat.mod_lt (b / 10000 ^ k) (show 0 < 10000 by omega)
    have ca0 : k < (toD a).length → ∃ bb o, A = some ⟨bb, o, none⟩ ∧ wr.cell? ⟨bb, o + k, none⟩ = some (.int .i64 ((a / 10000 ^ k % 10000 : Nat) : Int)) := fun h => by
      obtain ⟨bb, o, e, _, c0⟩ := (NA.out.only HO.out.2.2) k _ (toD_some h)
      exact ⟨bb, o, e, c0⟩
    have cb0 : k < (toD b).length → ∃ bb o, B = some ⟨bb, o, none⟩ ∧ wr.cell? ⟨bb, o + k, none⟩ = some (.int .i64 ((b / 10000 ^ k % 10000 : Nat) : Int)) := fun h => by
      obtain ⟨bb, o, e, _, c0⟩ := (NB.out.only HO.out.2.2) k _ (toD_some h)
      exact ⟨bb, o, e, c0⟩
    clear ho
    generalize a / 10000 ^ k % 10000 = da at *
    generalize b / 10000 ^ k % 10000 = db at *
    generalize borrowD a b k = bw at *
    by_cases h1 : k < (toD a).length
    · obtain ⟨ba, oa, rfl, c0⟩ := ca0 h1
      have t1 : decide ((k : Int) < ((toD a).length : Int)) = true := by simp; omega
      by_cases h2 : k < (toD b).length
      · obtain ⟨bb, ob, rfl, c1⟩ := cb0 h2
        have t2 : decide ((k : Int) < ((toD b).length : Int)) = true := by simp; omega
        by_cases h3 : db + bw ≤ da
        · obtain ⟨dg, hdg⟩ : ∃ dg : Nat, (da : Int) - (bw : Int) - (db : Int) = (dg : Int) := ⟨((da : Int) - (bw : Int) - (db : Int)).toNat, by omega⟩
          have st := (bst.1 (by omega))
          obtain ⟨v', w1, hrun, HF⟩ := push dg (by omega)
          have HS := Lib.hid st.1
          have hdl : (0 : Int) ≤ (dg : Int) := by omega
          clear push bst st hdb cb0
          go_wp2_with (at_builtin; refine wpList_append_run hrun rfl _ _ rfl rfl rfl rfl ?_)
          go_roundw
          case rel => exact ⟨k + 1, by go_num, by rw [HS.out]; rfl, by omega, HF.out⟩
          case measure => simp [intOf]; omega
        · obtain ⟨dg, hdg⟩ : ∃ dg : Nat, (da : Int) - (bw : Int) - (db : Int) + 10000 = (dg : Int) := ⟨((da : Int) - (bw : Int) - (db : Int) + 10000).toNat, by omega⟩
          have st := (bst.2 (by omega))
          have t4 : decide ((da : Int) - (bw : Int) - (db : Int) < 0) = true := by simp; omega
          obtain ⟨v', w1, hrun, HF⟩ := push dg (by omega)
          have HS := Lib.hid st.1
          have hdl : (0 : Int) ≤ (dg : Int) := by omega
          clear push bst st hdb cb0
          go_wp2_with (at_builtin; refine wpList_append_run hrun rfl _ _ rfl rfl rfl rfl ?_)
          go_roundw
          case rel => exact ⟨k + 1, by go_num, by rw [HS.out]; rfl, by omega, HF.out⟩
          case measure => simp [intOf]; omega
      · obtain rfl := hdb (by omega)
        have t2 : decide ((k : Int) < ((toD b).length : Int)) = false := by simp; omega
        by_cases h3 : bw ≤ da
        · obtain ⟨dg, hdg⟩ : ∃ dg : Nat, (da : Int) - (bw : Int) = (dg : Int) := ⟨((da : Int) - (bw : Int)).toNat, by omega⟩
          have st := (bst.1 (by omega))
          obtain ⟨v', w1, hrun, HF⟩ := push dg (by omega)
          have HS := Lib.hid st.1
          have hdl : (0 : Int) ≤ (dg : Int) := by omega
          clear push bst st hdb cb0
          go_wp2_with (at_builtin; refine wpList_append_run hrun rfl _ _ rfl rfl rfl rfl ?_)
          go_roundw
          case rel => exact ⟨k + 1, by go_num, by rw [HS.out]; rfl, by omega, HF.out⟩
          case measure => simp [intOf]; omega
        · obtain ⟨dg, hdg⟩ : ∃ dg : Nat, (da : Int) - (bw : Int) + 10000 = (dg : Int) := ⟨((da : Int) - (bw : Int) + 10000).toNat, by omega⟩
          have st := (bst.2 (by omega))
          have t4 : decide ((da : Int) - (bw : Int) < 0) = true := by simp; omega
          obtain ⟨v', w1, hrun, HF⟩ := push dg (by omega)
          have HS := Lib.hid st.1
          have hdl : (0 : Int) ≤ (dg : Int) := by omega
          clear push bst st hdb cb0
          go_wp2_with (at_builtin; refine wpList_append_run hrun rfl _ _ rfl rfl rfl rfl ?_)
          go_roundw
          case rel => exact ⟨k + 1, by go_num, by rw [HS.out]; rfl, by omega, HF.out⟩
          case measure => simp [intOf]; omega
    · obtain rfl : k = (toD a).length := by omega
      have HD := Lib.hid (done_ rfl)
      obtain ⟨A', c', rfl, nN, hc, hcm⟩ := own_nums HO.out.1
      have tr := trim_any (w := wr) nN (firstD_lt _ _) hc hcm (by rw [firstD_length]; exact ha)
      rw [firstD_length] at tr
      rw [firstD_length]
      have TR := Lib.hid tr
      clear push bst done_ ca0 cb0 hdb nN hc hcm tr
      go_wp2_with (fail)
      refine TR.out.mono ?_
      rintro e w1 ⟨v, rfl, hv, o1⟩
      have HV := Lib.hid hv
      have O1 := Lib.hid o1
      clear hv o1
      go_wp2_with (fail)
      go_ret
      exact ⟨_, rfl, by rw [← HD.out]; exact HV.out, HO.out.2.2.trans O1.out (by simp)⟩
end Go.Proofs.Ytcggeogpanackaa
