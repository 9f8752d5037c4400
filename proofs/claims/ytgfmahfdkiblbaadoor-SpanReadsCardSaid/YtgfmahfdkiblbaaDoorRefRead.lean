/- The reference's Read, walked. -/
import Derived.Test.YtgfmahfdkiblbaaDoorDigits
import Derived.Lib.Strings
namespace Go.Proofs.YtgfmahfdkiblbaaDoor
open Go.RowKit Go.Kx
set_option maxRecDepth 20000

theorem digits_anyS (s : ByteArray) (hl : s.size ≤ 10000) (w : World) : Calls Tryd.prog 49 #[.string s] w fun e w' => e = .returned (digV (digs s.data.toList)) ∧ w' = w := by
  have h := digits_any s.data.toList (by simpa using hl) w
  have e : (⟨s.data.toList.toArray⟩ : ByteArray) = s := by simp
  rwa [e] at h
theorem digs_some_ {l : List UInt8} {n : Nat} (h : digs l = some n) : l = Lib.decDigits n ∧ n ≤ maxI := digs_some h
theorem digits_some {s : ByteArray} (hl : s.size ≤ 10000) {n : Nat} (h : digs s.data.toList = some n) (w : World) : Calls Tryd.prog 49 #[.string s] w fun e w' => e = .returned (.tuple #[.int .i64 n, .bool true]) ∧ w' = w := by
  have := digits_anyS s hl w
  rwa [h] at this
theorem digits_none {s : ByteArray} (hl : s.size ≤ 10000) (h : digs s.data.toList = none) (w : World) : Calls Tryd.prog 49 #[.string s] w fun e w' => e = .returned (.tuple #[.int .i64 0, .bool false]) ∧ w' = w := by
  have := digits_anyS s hl w
  rwa [h] at this
theorem ext_take (s : ByteArray) (k : Nat) : (s.extract 0 k).data.toList = s.data.toList.take k := by
  simp
theorem ext_drop (s : ByteArray) (k : Nat) : (s.extract k s.size).data.toList = s.data.toList.drop k := by
  have : s.data.toList.length = s.size := by simp
  simp
  rw [List.take_of_length_le (by simp)]
theorem ext_take_size (s : ByteArray) (k : Nat) (h : s.size ≤ 10000) : (s.extract 0 k).size ≤ 10000 := by
  simp; omega
theorem ext_drop_size (s : ByteArray) (k : Nat) (h : s.size ≤ 10000) : (s.extract k s.size).size ≤ 10000 := by
  simp; omega

theorem digs_bound {l : List UInt8} {n : Nat} (h : digs l = some n) : n ≤ maxI := (digs_some_ h).2
theorem slash_hit {l : List UInt8} {k : Nat} (h : k < l.length) (hc : l[k] = 47) : slash (l.drop k) = 0 := by
  rw [List.drop_eq_getElem_cons h, hc]; unfold slash; rw [List.findIdx_cons]; rfl
theorem slash_miss {l : List UInt8} {k : Nat} (h : k < l.length) (hc : l[k] ≠ 47) : slash (l.drop k) = slash (l.drop (k + 1)) + 1 := by
  have e : (l[k] == 47) = false := by simpa using hc
  rw [List.drop_eq_getElem_cons h]; unfold slash; rw [List.findIdx_cons, e]; rfl
theorem refread_never (w : World) : Calls Tryd.prog 30 #[.string ⟨neverS.toArray⟩] w fun e w' => e = .returned (.tuple #[.agg #[.int .i64 1, .int .i64 0], .int .i64 0]) ∧ Only [] w w' := by
  have hN : (neverS == [110, 101, 118, 101, 114]) = true := by decide
  go_enter Tryd.func30, Tryd.ntmps30
  go_wp2_with (fail)
  exact bodyPost_ret (v := .tuple #[.agg #[.int .i64 1, .int .i64 0], .int .i64 0]) (by simp [results, Tryd.results30, go_sem]) rfl ⟨rfl, (Only.refl [] w).alloc _⟩

def rrT : Option Nat → Option Nat → Bool → Te
  | none, _, _ => ((0, 0), 6)
  | some n, _, false => ((n, 1), 0)
  | some _, none, true => ((0, 0), 6)
  | some n, some d, true => if 1 < d ∧ Tm.right ((n : Int), (d : Int)) = true then ((n, d), 0) else ((0, 0), 6)
theorem rr_eq {l : List UInt8} (hn : l ≠ neverS) : refReadT l = rrT (digs (l.take (slash l))) (digs (l.drop (slash l + 1))) (decide (slash l < l.length)) := by
  unfold refReadT
  rw [if_neg hn]
  rcases digs (l.take (slash l)) with _ | n
  · rfl
  · simp only
    by_cases h : slash l < l.length
    · rw [if_pos h, decide_eq_true h]
      rcases digs (l.drop (slash l + 1)) with _ | d
      · rfl
      · rfl
    · rw [if_neg h, decide_eq_false h]; rfl

set_option maxHeartbeats 4000000 in
theorem refread_other (s : ByteArray) (hs : s.size ≤ 10000) (hn : (s.toList == [110, 101, 118, 101, 114]) = false) {v1 v2 v3 : Int} {na nb : Option Nat} {two : Bool}
    (hna : digs (s.data.toList.take (slash s.data.toList)) = na) (hnb : digs (s.data.toList.drop (slash s.data.toList + 1)) = nb) (htwo : decide (slash s.data.toList < s.size) = two)
    (hv : rrT na nb two = ((v1, v2), v3)) (w : World) :
    Calls Tryd.prog 30 #[.string s] w fun e w' => e = .returned (.tuple #[.agg #[.int .i64 v1, .int .i64 v2], .int .i64 v3]) ∧ Only [] w w' := by
  have hlen : s.data.toList.length = s.size := by simp
  have hsl : slash s.data.toList ≤ s.data.toList.length := List.findIdx_le_length
  have HLEN := Lib.hid hlen
  have HNA := Lib.hid hna
  have HNB := Lib.hid hnb
  have HV := Lib.hid hv
  have HSL := Lib.hid hsl
  have HT := Lib.hid htwo
  clear hlen hna hnb hv hsl htwo
  have T0 := Lib.hid (Blk.new w 23 #[.int .i64 0, .int .i64 0])
  have O0 := Lib.hid ((Only.refl [] w).alloc (.cells #[.int .i64 0, .int .i64 0] 23))
  go_enter Tryd.func30, Tryd.ntmps30
  go_wp2_with (fail)
  go_loop [4, 5] (fun c i => ∃ k : Nat, k ≤ s.size ∧ i = .int .i64 ((k : Int) - 1) ∧ c = .int .i64 ((k + slash (s.data.toList.drop k) : Nat) : Int)) (fun _ i => (intOf i + 1).toNat)
  case atStart => exact ⟨s.size, Nat.le_refl _, rfl, by rw [← HLEN.out, List.drop_length]; rfl⟩
  case round =>
    obtain ⟨k, hk, rfl, rfl⟩ := hrel
    by_cases h0 : 0 < k
    · obtain ⟨j, rfl⟩ : ∃ j, k = j + 1 := ⟨k - 1, by omega⟩
      have hj : j < s.size := by omega
      have hjl : j < s.data.toList.length := by rw [HLEN.out]; exact hj
      have hhit := slash_hit hjl
      have hmiss := slash_miss hjl
      have hget : s.data.toList[j] = s[j] := rfl
      rw [hget] at hhit hmiss
      have HH := Lib.hid hhit
      have HM := Lib.hid hmiss
      clear hhit hmiss hget
      generalize slash (s.data.toList.drop (j + 1)) = c at HM
      have ej : (((j + 1 : Nat) : Int) - 1) = j := by omega
      simp only [ej]
      clear ej h0
      by_cases c0 : s[j] = 47
      · have g3 : ((s[j].toNat : Nat) : Int) = 47 := by rw [c0]; rfl
        have HC := Lib.hid (HH.out c0)
        clear c0
        go_wp2_with (fail)
        go_round
        case rel => exact ⟨j, by omega, rfl, by rw [HC.out]; rfl⟩
        case measure => simp [intOf]
      · have g3 : ¬ ((s[j].toNat : Nat) : Int) = 47 := fun h => c0 (UInt8.toNat_inj.1 (by have e : (47 : UInt8).toNat = 47 := rfl; omega))
        have HC := Lib.hid (HM.out c0)
        clear c0
        go_wp2_with (fail)
        go_round
        case rel => exact ⟨j, by omega, rfl, by rw [HC.out]; congr 1; omega⟩
        case measure => simp [intOf]
    · obtain rfl : k = 0 := by omega
      have e0 : (((0 + slash (s.data.toList.drop 0) : Nat)) : Int) = ((slash s.data.toList : Nat) : Int) := by rw [List.drop_zero, Nat.zero_add]
      simp only [e0]
      clear e0 hk h0
      have HE1 := Lib.hid (ext_take s (slash s.data.toList))
      have HE2 := Lib.hid (ext_drop s (slash s.data.toList + 1))
      have hz1 := Lib.hid (ext_take_size s (slash s.data.toList) hs)
      have hz2 := Lib.hid (ext_drop_size s (slash s.data.toList + 1) hs)
      have hcs : slash s.data.toList ≤ s.size := by rw [← HLEN.out]; exact HSL.out
      generalize slash s.data.toList = c at HNA HNB HT HE1 HE2 hz1 hz2 hcs ⊢
      have ez : (((0 : Nat) : Int) - 1) = -1 := rfl
      simp only [ez]
      clear ez HSL
      have HA := Lib.hid (show digs (s.extract 0 c).data.toList = na by rw [HE1.out]; exact HNA.out)
      have HB := Lib.hid (show digs (s.extract (c + 1) s.size).data.toList = nb by rw [HE2.out]; exact HNB.out)
      clear HE1 HE2 HNA HNB
      cases two
      · have hc : ¬ c < s.size := of_decide_eq_false HT.out
        have hcd : ¬ (c : Int) < s.size := by omega
        clear hc
        rcases na with _ | n
        · obtain ⟨⟨rfl, rfl⟩, rfl⟩ : (v1 = 0 ∧ v2 = 0) ∧ v3 = 6 := by have := HV.out; simp [rrT] at this; omega
          go_wp2_with (fail)
          refine (digits_none hz1.out HA.out _).mono ?_
          rintro e w1 ⟨rfl, rfl⟩
          go_wp2_with (fail)
          exact bodyPost_ret (v := .tuple #[.agg #[.int .i64 0, .int .i64 0], .int .i64 6]) (by simp [results, Tryd.results30, go_sem]) rfl ⟨rfl, by first | exact O0.out.alloc _ | exact (O0.out.alloc _).drew⟩
        · obtain ⟨⟨rfl, rfl⟩, rfl⟩ : (v1 = n ∧ v2 = 1) ∧ v3 = 0 := by have := HV.out; simp [rrT] at this; omega
          go_wp2_with (fail)
          refine (digits_some hz1.out HA.out _).mono ?_
          rintro e w1 ⟨rfl, rfl⟩
          have hr : Tm.right ((n : Int), 1) = true := by unfold Tm.right rightB; simp
          have hm := (digs_bound HA.out)
          have ho : Tm.ok ((n : Int), 1) := by unfold Tm.ok I64; unfold maxI at hm; simp only; omega
          have HR := Lib.hid hr
          have HO := Lib.hid ho
          clear hr ho hm
          go_wp2_with (fail)
          refine (refrightr (a := ((n : Int), 1)) HO.out HR.out _).mono ?_
          rintro e w2 ⟨rfl, o⟩
          have t2 := o.blk (show Blk (w.alloc (.cells #[.int .i64 0, .int .i64 0] 23) |>.alloc (.cells #[.int .i64 n, .int .i64 1] 23)) (w.heap.size + 1) 23 #[.int .i64 n, .int .i64 1] by simpa using Blk.new (w.alloc (.cells #[.int .i64 0, .int .i64 0] 23)) 23 #[.int .i64 n, .int .i64 1]) (by simp)
          have r2 := o.blk (T0.out.alloc _) (by simp)
          obtain ⟨c0, c1, cl⟩ := t2.facts2
          obtain ⟨q0, q1, ql⟩ := r2.facts2
          have f0 := r2.frozen 0
          have f1 := r2.frozen 1
          have O2 := Lib.hid ((O0.out.alloc _).trans o (by simp))
          clear o t2 r2
          go_wp2_with (fail)
          exact bodyPost_ret (v := .tuple #[.agg #[.int .i64 n, .int .i64 1], .int .i64 0]) (by simp [results, Tryd.results30, go_sem, q0, q1]) rfl ⟨rfl, only_two O2.out (by simp) (by simp) _ _⟩
      · have hc : c < s.size := of_decide_eq_true HT.out
        have hcd : (c : Int) < s.size := by omega
        clear hc
        rcases na with _ | n
        · obtain ⟨⟨rfl, rfl⟩, rfl⟩ : (v1 = 0 ∧ v2 = 0) ∧ v3 = 6 := by have := HV.out; simp [rrT] at this; omega
          go_wp2_with (fail)
          refine (digits_none hz1.out HA.out _).mono ?_
          rintro e w1 ⟨rfl, rfl⟩
          rcases nb with _ | d
          · go_wp2_with (fail)
            refine (digits_none hz2.out HB.out _).mono ?_
            rintro e w2 ⟨rfl, rfl⟩
            go_wp2_with (fail)
            exact bodyPost_ret (v := .tuple #[.agg #[.int .i64 0, .int .i64 0], .int .i64 6]) (by simp [results, Tryd.results30, go_sem]) rfl ⟨rfl, by first | exact O0.out.alloc _ | exact (O0.out.alloc _).drew⟩
          · go_wp2_with (fail)
            refine (digits_some hz2.out HB.out _).mono ?_
            rintro e w2 ⟨rfl, rfl⟩
            go_wp2_with (fail)
            exact bodyPost_ret (v := .tuple #[.agg #[.int .i64 0, .int .i64 0], .int .i64 6]) (by simp [results, Tryd.results30, go_sem]) rfl ⟨rfl, by first | exact O0.out.alloc _ | exact (O0.out.alloc _).drew⟩
        · rcases nb with _ | d
          · obtain ⟨⟨rfl, rfl⟩, rfl⟩ : (v1 = 0 ∧ v2 = 0) ∧ v3 = 6 := by have := HV.out; simp [rrT] at this; omega
            go_wp2_with (fail)
            refine (digits_some hz1.out HA.out _).mono ?_
            rintro e w1 ⟨rfl, rfl⟩
            go_wp2_with (fail)
            refine (digits_none hz2.out HB.out _).mono ?_
            rintro e w2 ⟨rfl, rfl⟩
            go_wp2_with (fail)
            exact bodyPost_ret (v := .tuple #[.agg #[.int .i64 0, .int .i64 0], .int .i64 6]) (by simp [results, Tryd.results30, go_sem]) rfl ⟨rfl, by first | exact O0.out.alloc _ | exact (O0.out.alloc _).drew⟩
          · have hv : (if 1 < d ∧ Tm.right ((n : Int), (d : Int)) = true then ((((n : Int), (d : Int)), (0 : Int)) : Te) else ((0, 0), 6)) = ((v1, v2), v3) := HV.out
            have hm := digs_bound HA.out
            have hm2 := digs_bound HB.out
            unfold maxI at hm hm2
            by_cases h1 : 1 < d
            · have h1d : decide ((1 : Int) < d) = true := by simp; omega
              have ho : Tm.ok ((n : Int), (d : Int)) := by unfold Tm.ok I64; simp only; omega
              have HO := Lib.hid ho
              by_cases hr : Tm.right ((n : Int), (d : Int)) = true
              · rw [if_pos ⟨h1, hr⟩] at hv
                obtain ⟨⟨rfl, rfl⟩, rfl⟩ : ((n : Int) = v1 ∧ (d : Int) = v2) ∧ 0 = v3 := by simpa using hv
                have HR := Lib.hid hr
                clear hv hr ho HV
                go_wp2_with (fail)
                refine (digits_some hz1.out HA.out _).mono ?_
                rintro e w1 ⟨rfl, rfl⟩
                go_wp2_with (fail)
                refine (digits_some hz2.out HB.out _).mono ?_
                rintro e w2 ⟨rfl, rfl⟩
                go_wp2_with (fail)
                refine (refrightr (a := ((n : Int), (d : Int))) HO.out HR.out _).mono ?_
                rintro e w2 ⟨rfl, o⟩
                have t2 := o.blk (show Blk (w.alloc (.cells #[.int .i64 0, .int .i64 0] 23) |>.alloc (.cells #[.int .i64 n, .int .i64 d] 23)) (w.heap.size + 1) 23 #[.int .i64 n, .int .i64 d] by simpa using Blk.new (w.alloc (.cells #[.int .i64 0, .int .i64 0] 23)) 23 #[.int .i64 n, .int .i64 d]) (by simp)
                have r2 := o.blk (T0.out.alloc _) (by simp)
                obtain ⟨c0, c1, cl⟩ := t2.facts2
                obtain ⟨q0, q1, ql⟩ := r2.facts2
                have f0 := r2.frozen 0
                have f1 := r2.frozen 1
                have O2 := Lib.hid ((O0.out.alloc _).trans o (by simp))
                clear o t2 r2
                go_wp2_with (fail)
                exact bodyPost_ret (v := .tuple #[.agg #[.int .i64 n, .int .i64 d], .int .i64 0]) (by simp [results, Tryd.results30, go_sem, q0, q1]) rfl ⟨rfl, only_two O2.out (by simp) (by simp) _ _⟩
              · rw [if_neg (fun h => hr h.2)] at hv
                obtain ⟨⟨rfl, rfl⟩, rfl⟩ : (0 = v1 ∧ 0 = v2) ∧ 6 = v3 := by simpa using hv
                have HR := Lib.hid (show Tm.right ((n : Int), (d : Int)) = false by simpa using hr)
                clear hv hr ho HV
                go_wp2_with (fail)
                refine (digits_some hz1.out HA.out _).mono ?_
                rintro e w1 ⟨rfl, rfl⟩
                go_wp2_with (fail)
                refine (digits_some hz2.out HB.out _).mono ?_
                rintro e w2 ⟨rfl, rfl⟩
                go_wp2_with (fail)
                refine (refrightr (a := ((n : Int), (d : Int))) HO.out HR.out _).mono ?_
                rintro e w3 ⟨rfl, o⟩
                have r2 := o.blk (T0.out.alloc _) (by simp)
                obtain ⟨q0, q1, ql⟩ := r2.facts2
                have f0 := r2.frozen 0
                have f1 := r2.frozen 1
                have O2 := Lib.hid ((O0.out.alloc _).trans o (by simp))
                clear o r2
                go_wp2_with (fail)
                exact bodyPost_ret (v := .tuple #[.agg #[.int .i64 0, .int .i64 0], .int .i64 6]) (by simp [results, Tryd.results30, go_sem, q0, q1]) rfl ⟨rfl, only_two O2.out (by simp) (by simp) _ _⟩
            · have h1d : decide ((1 : Int) < d) = false := by simp; omega
              rw [if_neg (fun h => h1 h.1)] at hv
              obtain ⟨⟨rfl, rfl⟩, rfl⟩ : (0 = v1 ∧ 0 = v2) ∧ 6 = v3 := by simpa using hv
              clear hv HV h1
              go_wp2_with (fail)
              refine (digits_some hz1.out HA.out _).mono ?_
              rintro e w1 ⟨rfl, rfl⟩
              go_wp2_with (fail)
              refine (digits_some hz2.out HB.out _).mono ?_
              rintro e w2 ⟨rfl, rfl⟩
              go_wp2_with (fail)
              exact bodyPost_ret (v := .tuple #[.agg #[.int .i64 0, .int .i64 0], .int .i64 6]) (by simp [results, Tryd.results30, go_sem]) rfl ⟨rfl, by first | exact O0.out.alloc _ | exact (O0.out.alloc _).drew⟩

theorem refread_any (l : List UInt8) (hl : l.length ≤ 10000) (w : World) : Calls Tryd.prog 30 #[.string ⟨l.toArray⟩] w fun e w' => e = .returned (.tuple #[.agg #[.int .i64 (refReadT l).1.1, .int .i64 (refReadT l).1.2], .int .i64 (refReadT l).2]) ∧ Only [] w w' := by
  by_cases hn : l = neverS
  · subst hn; exact refread_never w
  · have hsz : (⟨l.toArray⟩ : ByteArray).size = l.length := by show l.toArray.size = _; simp
    have hll : (⟨l.toArray⟩ : ByteArray).data.toList = l := by simp
    have h1 : ((⟨l.toArray⟩ : ByteArray).toList == [110, 101, 118, 101, 114]) = false := by simpa [neverS] using hn
    obtain ⟨⟨⟨v1, v2⟩, v3⟩, hv⟩ : ∃ x, rrT (digs (l.take (slash l))) (digs (l.drop (slash l + 1))) (decide (slash l < l.length)) = x := ⟨_, rfl⟩
    have := refread_other ⟨l.toArray⟩ (by omega) h1 (by rw [hll]) (by rw [hll]) (by rw [hll, hsz]) hv w
    rw [rr_eq hn, hv]
    exact this

end Go.Proofs.YtgfmahfdkiblbaaDoor
