/- The reference's numbers, walked: Div. -/
import Derived.Test.YtcggeogpanackaaNum3
namespace Go.Proofs.Ytcggeogpanackaa
open Go.RowKit Go.Kx
set_option maxRecDepth 20000

theorem cell_addr_add (w : World) (b o j : Nat) : w.cell? ((⟨b, o, none⟩ : Addr).add j) = w.cell? ⟨b, o + j, none⟩ := by
  unfold Addr.add
  split
  · rename_i h; subst h; rfl
  · rfl
theorem cmpN_le {a b : Nat} : decide (cmpN a b ≤ 0) = decide (a ≤ b) := by
  unfold cmpN
  by_cases h : a < b
  · rw [if_pos h]; simp; omega
  · rw [if_neg h]
    by_cases h2 : a = b
    · rw [if_pos h2]; simp; omega
    · rw [if_neg h2]; simp; omega
theorem toD_len_mul {x b : Nat} (hx : x < 10000) : (toD (x * b)).length ≤ (toD b).length + 1 := by
  refine toD_len_le ?_
  have := lt_pow_len b
  rw [Nat.pow_succ, Nat.mul_comm]
  rcases Nat.eq_zero_or_pos x with h | h
  · subst h; rw [Nat.mul_zero]; exact Nat.mul_pos (pow_pos_ _) (by omega)
  · exact Nat.lt_of_lt_of_le (Nat.mul_lt_mul_of_pos_right this h) (Nat.mul_le_mul_left _ (by omega))
theorem toD_len_small {x : Nat} (hx : x < 10000) : (toD x).length ≤ 1 := toD_len_le (by omega)

/-- append([d], r...) -/
theorem cons_run {w wr : World} {A : Option Addr} {c d r : Nat} (hr : Nums wr A (toD r)) (hl : (toD r).length ≤ 1000) (ho : Only [] w wr) :
    ∃ v' w1, (Builtin.append_ #[84, 84] 84 #[.slice (some ⟨wr.heap.size, 0, none⟩) 1 1, .slice A (toD r).length c]).run Try.prog (wr.alloc (.cells #[.int .i64 (d : Int)] 3)) = .ok v' w1 ∧
      (∃ A' c', v' = .slice A' ((d :: toD r).length) c' ∧ Nums w1 A' (d :: toD r) ∧ (d :: toD r).length ≤ c' ∧ c' ≤ maxLen ∧ ∀ g o, A' = some ⟨g, o, none⟩ → wr.heap.size ≤ g) ∧ Only [] wr w1 := by
  have hblk : Blk (wr.alloc (.cells #[.int .i64 (d : Int)] 3)) wr.heap.size 3 #[.int .i64 (d : Int)] := Blk.new _ _ _
  have hown : (wr.alloc (.cells #[.int .i64 (d : Int)] 3)).ownsRow 0 3 1 (.slice (some ⟨wr.heap.size, 0, none⟩) 1 1) 1 [.int .i64 (d : Int)] :=
    ⟨rfl, .inr ⟨wr.heap.size, 1, #[.int .i64 (d : Int)], rfl, Nat.zero_le _, hblk, Nat.le_refl _, by unfold maxLen; omega, rfl, rfl⟩⟩
  have hn : Nums (wr.alloc (.cells #[.int .i64 (d : Int)] 3)) A (toD r) := hr.only ((Only.refl [] wr).alloc _)
  obtain ⟨v', w1, hrun, ho1, hO, hat⟩ := run_appendN (P := Try.prog) (t := 84) (e := 3) 84 Try.underlying84 (z := .int .i64 0) (bytes := 8) (by kernel_rfl) rfl hown (A := A) (c := c) (news := intsV (toD r))
    (fun j u hu => by
      obtain ⟨x, hx, rfl⟩ : ∃ x, (toD r)[j]? = some x ∧ Value.int .i64 (x : Int) = u := by simpa [intsV] using hu
      obtain ⟨b, o, e, _, hc⟩ := hn j x hx
      exact ⟨_, e, by rw [cell_addr_add]; exact hc⟩)
    (fun u hu => by
      obtain ⟨x, _, rfl⟩ : ∃ x, x ∈ toD r ∧ Value.int .i64 (x : Int) = u := by simpa [intsV] using hu
      rfl)
    (by rw [intsV_length]; unfold maxLen; omega) (by rw [intsV_length]; omega)
  rw [intsV_length] at hrun
  refine ⟨v', w1, hrun, ?_, ?_⟩
  · have h : w1.ownsRow 0 3 1 v' (d :: toD r).length (intsV (d :: toD r)) := by
      have e : (d :: toD r).length = 1 + (intsV (toD r)).length := by rw [intsV_length, List.length_cons]; omega
      rw [e]; exact ho1
    obtain ⟨A', c', e, h1, h2, h3⟩ := own_nums h
    refine ⟨A', c', e, h1, h2, h3, fun g o hg => ?_⟩
    subst hg
    rw [e] at hat
    simp [Value.ownBlock] at hat
    omega
  · exact ((Only.refl [] wr).alloc _).trans hO (fun x hx => .inr (by simp [Value.ownBlock] at hx; omega))

set_option maxHeartbeats 8000000 in
theorem divn_any {a b : Nat} {w : World} {x y : Value} (hx : Nm w x a) (hy : Nm w y b) (ha : (toD a).length ≤ 100) (hb : (toD b).length ≤ 100) (h0 : 0 < b) :
    Calls Try.prog 56 #[x, y] w fun e w' => ∃ u v, e = .returned (.tuple #[u, v]) ∧ Nm w' u (a / b) ∧ Nm w' v (a % b) ∧ Only [] w w' := by
  have HX := Lib.hid hx
  have HY := Lib.hid hy
  obtain ⟨A, ca, rfl, nA, _⟩ := hx
  have NA := Lib.hid nA
  have HLa := Lib.hid (lt_pow_len a)
  clear nA hy
  have hmk : ∀ W : World, (Instr.makeSlice 84 (.int .i64 ((toD a).length : Int)) (.int .i64 ((toD a).length : Int))).run Try.prog W = .ok (.slice (some ⟨W.heap.size, 0, none⟩) (toD a).length (toD a).length) (W.alloc (.cells (intsV (List.replicate (toD a).length 0)).toArray 3)) := by
    intro W
    have h := run_make_one (P := Try.prog) 84 3 Try.underlying84 (z := .int .i64 0) (bytes := 8) (by kernel_rfl) rfl .i64 .i64 (toD a).length (by omega) (by omega) W
    rw [zeros_ints] at h
    exact h
  go_enter Try.func56, Try.ntmps56
  go_wp2_with (fail)
  clear hmk
  go_loopw [7, 8] (fun r i wr => ∃ k : Nat, ∃ l : List Nat, i = .int .i64 ((k : Int) - 1) ∧ k ≤ (toD a).length ∧ l.length = (toD a).length ∧ (∀ j, k ≤ j → j < (toD a).length → l[j]? = some (a / b / 10000 ^ j % 10000)) ∧ Nm wr r (a / 10000 ^ k % b) ∧ Blk wr w.heap.size 3 (intsV l).toArray ∧ Only [] w wr) (fun _ i _ => (intOf i + 1).toNat)
  case atStart => exact ⟨(toD a).length, List.replicate (toD a).length 0, rfl, Nat.le_refl _, by simp, fun j h1 h2 => by omega, ⟨none, 0, by rw [Nat.div_eq_of_lt HLa.out, Nat.zero_mod, toD_zero]; rfl, by rw [Nat.div_eq_of_lt HLa.out, Nat.zero_mod, toD_zero]; exact Nums.nil _ _, by rw [Nat.div_eq_of_lt HLa.out, Nat.zero_mod, toD_zero]; simp, by unfold maxLen; omega⟩, Blk.new _ _ _, (Only.refl [] w).alloc _⟩
  case round =>
    obtain ⟨k, l, rfl, hk, hll, hlj, hr, hbk, ho⟩ := hrel
    cases k with
    | zero =>
      have hl : l = firstD (a / b) (toD a).length := by
        refine List.ext_getElem? fun j => ?_
        rcases Nat.lt_or_ge j (toD a).length with h | h
        · rw [hlj j (by omega) h]; simp [firstD, h]
        · rw [List.getElem?_eq_none (by omega), List.getElem?_eq_none (by rw [firstD_length]; exact h)]
      have hdv : dv l = a / b := by
        rw [hl, dv_firstD, Nat.mod_eq_of_lt]
        have := Nat.div_le_self a b
        have := HLa.out
        omega
      have nN : Nums wr (some ⟨w.heap.size, 0, none⟩) l := fun i d hd => ⟨w.heap.size, 0, rfl, hbk.lt, by rw [hbk.cell, Nat.zero_add]; exact intsV_at hd⟩
      have tr := trim_any (c := (toD a).length) nN (by rw [hl]; exact firstD_lt _ _) (by omega) (by unfold maxLen; omega) (by omega)
      rw [hdv, hll] at tr
      rw [Nat.pow_zero, Nat.div_one] at hr
      have TR := Lib.hid tr
      have HR := Lib.hid hr
      have HO := Lib.hid ho
      clear hl hdv nN tr hr ho hbk hlj
      go_wp2_with (fail)
      refine TR.out.mono ?_
      rintro e w1 ⟨v, rfl, hv, o1⟩
      have HV := Lib.hid hv
      have O1 := Lib.hid o1
      clear hv o1
      go_wp2_with (fail)
      go_ret2
      exact ⟨_, _, rfl, HV.out, HR.out.only O1.out, HO.out.trans O1.out (by simp)⟩
    | succ i =>
      have ei : ((i + 1 : Nat) : Int) - 1 = (i : Int) := by omega
      rw [ei]
      have hds := div_step (a := a) (b := b) (i := i) h0
      obtain ⟨ba, oa, rfl, hba, c0⟩ := (NA.out.only ho) i _ (toD_some (by omega))
      obtain ⟨Ar, cr, rfl, nR, _, _⟩ := hr
      have hrb := Nat.mod_lt (a / 10000 ^ (i + 1)) h0
      have hai := Nat.mod_lt (a / 10000 ^ i) (show 0 < 10000 by omega)
      generalize a / 10000 ^ (i + 1) % b = r at *
      generalize a / 10000 ^ i % 10000 = ai at *
      have hrl : (toD r).length ≤ (toD b).length := toD_len_le (Nat.lt_trans hrb (lt_pow_len b))
      obtain ⟨v', w1, hrun, ⟨A', c', rfl, nV, hc', hcm, hnew⟩, hO1⟩ := cons_run (d := ai) (c := cr) nR (by omega) ho
      obtain ⟨R, hR⟩ : ∃ R, R = ai + 10000 * r := ⟨_, rfl⟩
      have hRb : R < 10000 * b := by
        have : 10000 * (r + 1) ≤ 10000 * b := Nat.mul_le_mul_left _ hrb
        omega
      have hRl : (toD R).length ≤ (toD b).length + 1 := toD_len_le (by
        have := lt_pow_len b
        rw [Nat.pow_succ]; omega)
      have tr := trim_keep nV (fun d hd => by
        rcases List.mem_cons.1 hd with rfl | hd
        · exact hai
        · exact toD_lt _ d hd) hc' hcm (by rw [List.length_cons]; omega)
      rw [show dv (ai :: toD r) = R by rw [hR]; simp [dv, dv_toD]] at tr
      rw [← hR] at hds
      have hsep : ∀ g o, A' = some ⟨g, o, none⟩ → g ≠ w.heap.size := fun g o h => by
        have := hnew g o h
        have := hbk.lt
        omega
      have hlen1 : (ai :: toD r).length ≤ c' := hc'
      have SEP := Lib.hid (And.intro hsep (And.intro nV (And.intro hlen1 hcm)))
      have TR := Lib.hid tr
      have HDS := Lib.hid hds
      have HLJ := Lib.hid hlj
      have HB := Lib.hid (hO1.blk hbk (by simp))
      have HO := Lib.hid (ho.trans hO1 (by simp))
      clear hds tr hlj hbk ho hO1 nV nR hR ei hsep hlen1 hcm hc' hnew
      go_wp2_with (at_builtin; refine wpList_append_run hrun rfl _ _ rfl rfl rfl rfl ?_)
      clear hrun
      refine TR.out.mono ?_
      rintro e w2 ⟨rfl, ⟨kk, hkk⟩, rfl⟩
      have hnR : Nums w2 A' (toD R) := by rw [hkk]; exact SEP.out.2.1.take kk
      have hcR : (toD R).length ≤ c' := by rw [hkk, List.length_take]; have := SEP.out.2.2.1; omega
      have HNR := Lib.hid hnR
      have HCR := Lib.hid hcR
      clear hnR hcR hkk c0
      go_wp2_with (fail)
      go_loopw [9, 10] (fun lo hi wr => ∃ x z : Nat, lo = .int .i64 x ∧ hi = .int .i64 z ∧ x ≤ z ∧ z ≤ 9999 ∧ x * b ≤ R ∧ R < (z + 1) * b ∧ Only [] w2 wr) (fun lo hi _ => (intOf hi).toNat - (intOf lo).toNat)
      case atStart => exact ⟨0, 9999, rfl, rfl, by omega, by omega, by omega, by omega, Only.refl _ _⟩
      case round =>
        obtain ⟨x, z, rfl, rfl, hxz, hz, hxb, hzb, ho⟩ := hrel
        by_cases hlt : x < z
        · obtain ⟨m, hm⟩ : ∃ m, m = (x + z + 1) / 2 := ⟨_, rfl⟩
          have em : ((x : Int) + (z : Int) + 1) / 2 = (m : Int) := by omega
          have hm1 : x < m := by omega
          have hm2 : m ≤ z := by omega
          have hml : (toD m).length ≤ 1 := toD_len_small (by omega)
          have hmbl : (toD (m * b)).length ≤ (toD b).length + 1 := toD_len_mul (by omega)
          have HXB := Lib.hid (And.intro hxb hzb)
          have HO2 := Lib.hid ho
          clear hm hxb hzb ho
          go_wp2_with (fail)
          refine (from_any m (by omega) _).mono ?_
          rintro e w3 ⟨v3, rfl, hv3, o3⟩
          have HV3 := Lib.hid hv3
          have HO3 := Lib.hid (HO2.out.trans o3 (by simp))
          clear hv3 o3
          go_wp2_with (fail)
          refine (muln_any HV3.out ((HY.out.only HO.out).only HO3.out) (by omega) (by omega)).mono ?_
          rintro e w4 ⟨v4, rfl, hv4, o4⟩
          have HV4 := Lib.hid hv4
          have HO4 := Lib.hid (HO3.out.trans o4 (by simp))
          clear hv4 o4
          go_wp2_with (fail)
          refine (cmpn_any HV4.out (y := .slice A' (toD R).length c') ⟨A', c', rfl, HNR.out.only HO4.out, HCR.out, SEP.out.2.2.2⟩ (by omega) (by omega)).mono ?_
          rintro e w5 ⟨rfl, o5⟩
          have HO5 := Lib.hid (HO4.out.trans o5 (by simp))
          clear o5
          have hcn := cmpN_le (a := m * b) (b := R)
          by_cases hmb : m * b ≤ R
          · rw [decide_eq_true hmb] at hcn
            go_wp2_with (fail)
            go_roundw
            case rel => exact ⟨m, z, rfl, rfl, hm2, hz, hmb, HXB.out.2, HO5.out⟩
            case measure => simp [intOf]; omega
          · rw [decide_eq_false hmb] at hcn
            have em1 : (m : Int) - 1 = ((m - 1 : Nat) : Int) := by omega
            go_wp2_with (fail)
            go_roundw
            case rel => exact ⟨x, m - 1, rfl, by first | rfl | (rw [em1]), by omega, by omega, HXB.out.1, by rw [show m - 1 + 1 = m by omega]; omega, HO5.out⟩
            case measure => simp [intOf]; omega
        · obtain rfl : x = z := by omega
          have hq : R / b = x := Nat.div_eq_of_lt_le hxb hzb
          have hrm : R - x * b = R % b := by
            have := Nat.div_add_mod R b
            rw [hq, Nat.mul_comm] at this
            omega
          have hxl : (toD x).length ≤ 1 := toD_len_small (by omega)
          have hxbl : (toD (x * b)).length ≤ (toD b).length + 1 := toD_len_mul (by omega)
          have hb3 := ho.blk HB.out (by simp)
          have hil : i < l.length := by omega
          obtain ⟨old, hold⟩ : ∃ v, l[i]? = some v := ⟨_, List.getElem?_eq_getElem hil⟩
          have cl := hb3.cell i
          rw [intsV_at hold] at cl
          have fl := hb3.frozen i
          have HB3 := Lib.hid hb3
          have HO3 := Lib.hid ho
          have HQ := Lib.hid hq
          have HRM := Lib.hid (And.intro hrm hxb)
          have hset : Only [w.heap.size] wr (wr.setCell ⟨w.heap.size, i, none⟩ (.int .i64 x)) := (Only.refl _ wr).setCell (by simp) _
          have HST := Lib.hid hset
          have hall : Only [] w (wr.setCell ⟨w.heap.size, i, none⟩ (.int .i64 x)) := (HO.out.trans HO3.out (by simp)).trans hset (fun y hy => .inr (by simp at hy; omega))
          have HALL := Lib.hid hall
          have hiL : (i : Int) < ((toD a).length : Int) := by omega
          clear hq hrm hb3 hold ho hxb hzb hset hall hlt
          go_wp2_with (fail)
          refine (from_any x (by omega) _).mono ?_
          rintro e w3 ⟨v3, rfl, hv3, o3⟩
          have HV3 := Lib.hid hv3
          have HO4 := Lib.hid o3
          clear hv3 o3
          go_wp2_with (fail)
          refine (muln_any HV3.out ((HY.out.only HALL.out).only HO4.out) (by omega) (by omega)).mono ?_
          rintro e w4 ⟨v4, rfl, hv4, o4⟩
          have HV4 := Lib.hid hv4
          have HO5 := Lib.hid (HO4.out.trans o4 (by simp))
          clear hv4 o4
          have hNR : Nums (wr.setCell ⟨w.heap.size, i, none⟩ (.int .i64 x)) A' (toD R) := fun q d hd => by
            obtain ⟨g, o, e, hg, hc⟩ := (HNR.out.only HO3.out) q d hd
            exact ⟨g, o, e, by have := HST.out.size; omega, (HST.out.cell (p := ⟨g, _, none⟩) hg (by have := SEP.out.1 g o e; simp; omega)).trans hc⟩
          have HNR2 := Lib.hid (hNR.only HO5.out)
          clear hNR
          go_wp2_with (fail)
          refine (subn_any (x := .slice A' (toD R).length c') (a := R) ⟨A', c', rfl, HNR2.out, HCR.out, SEP.out.2.2.2⟩ HV4.out (by omega) (by omega) HRM.out.2).mono ?_
          rintro e w5 ⟨v5, rfl, hv5, o5⟩
          have HV5 := Lib.hid hv5
          have HO6 := Lib.hid (HO5.out.trans o5 (by simp))
          clear hv5 o5
          go_wp2_with (fail)
          go_roundw
          case rel =>
            refine ⟨i, l.set i x, rfl, by omega, by rw [List.length_set]; exact hll, fun j h1 h2 => ?_, ?_, ?_, HALL.out.trans HO6.out (by simp)⟩
            · rcases Nat.eq_or_lt_of_le h1 with h | h
              · subst h
                rw [List.getElem?_set_self (by omega), HDS.out.2, HQ.out]
              · rw [List.getElem?_set_ne (by omega)]
                exact HLJ.out j (by omega) h2
            · rw [HDS.out.1, ← HRM.out.1]; exact HV5.out
            · rw [← intsV_set]
              exact HO6.out.blk (HB3.out.set_ i _) (by simp)
          case measure => first | (simp [intOf]; done) | (simp [intOf]; omega)
end Go.Proofs.Ytcggeogpanackaa
