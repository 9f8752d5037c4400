/- The reference's Cmp, walked. -/
import Derived.Test.YtcggeogpanackaaRefRight
import Derived.Test.YtcggeogpanackaaSmall
namespace Go.Proofs.Ytcggeogpanackaa
open Go.RowKit Go.Kx
set_option maxRecDepth 20000

theorem refright_any (a b : Int) (ha : I64 a) (hb : I64 b) (w : World) :
    Calls Try.prog 30 #[.agg #[.int .i64 a, .int .i64 b]] w fun e w' => e = .returned (.bool (rightB a b)) ∧ Only [] w w' := by
  unfold I64 at ha hb
  unfold rightB
  by_cases h0 : b = 0
  · subst h0
    rw [if_pos rfl]
    by_cases h1 : a = 1
    · subst h1; exact refright_never w
    · rw [decide_eq_false h1]
      exact refright_low a 0 (by omega) (by simp [h1]) w
  · rw [if_neg h0]
    by_cases h2 : 0 < b
    · by_cases h3 : 0 ≤ a
      · obtain ⟨n, rfl⟩ := Int.eq_ofNat_of_zero_le h3
        obtain ⟨d, rfl⟩ := Int.eq_ofNat_of_zero_le (Int.le_of_lt h2)
        have e : (decide ((0 : Int) < (d : Int)) && decide ((0 : Int) ≤ (n : Int)) && decide (Nat.gcd (n : Int).toNat (d : Int).toNat = 1)) = decide (Nat.gcd n d = 1) := by
          have : 0 < d := by omega
          simp [this]
        rw [e]
        exact refright_pos n d (by omega) (by omega) (by omega) w
      · rw [decide_eq_true h2, decide_eq_false h3]
        exact refright_neg a b h2 h3 w
    · rw [decide_eq_false h2]
      exact refright_low a b h2 (by simp [h0]) w

theorem eq_timesT (a : Tm) (W : World) : (binOp .eql 24 (.agg #[.int .i64 a.1, .int .i64 a.2]) (.agg #[.int .i64 a.1, .int .i64 a.2])).run Try.prog W = .ok (.bool true) W := by
  rw [eq_times, decide_eq_true ⟨rfl, rfl⟩]
theorem refr_t {t : Tm} (ho : t.ok) (h : t.right = true) (w : World) : Calls Try.prog 30 #[.agg #[.int .i64 t.1, .int .i64 t.2]] w fun e w' => e = .returned (.bool true) ∧ Only [] w w' := by
  have := refright_any t.1 t.2 ho.1 ho.2 w
  unfold Tm.right at h
  rwa [h] at this
theorem refr_f {t : Tm} (ho : t.ok) (h : t.right = false) (w : World) : Calls Try.prog 30 #[.agg #[.int .i64 t.1, .int .i64 t.2]] w fun e w' => e = .returned (.bool false) ∧ Only [] w w' := by
  have := refright_any t.1 t.2 ho.1 ho.2 w
  unfold Tm.right at h
  rwa [h] at this
theorem refnever_t (w : World) : Calls Try.prog 31 #[.agg #[.int .i64 1, .int .i64 0]] w fun e w' => e = .returned (.bool true) ∧ Only [] w w' := refnever_any 1 0 w
theorem refnever_f {t : Tm} (h : t.2 ≠ 0) (w : World) : Calls Try.prog 31 #[.agg #[.int .i64 t.1, .int .i64 t.2]] w fun e w' => e = .returned (.bool false) ∧ Only [] w w' := by
  have := refnever_any t.1 t.2 w
  rwa [decide_eq_false h, Bool.and_false] at this
theorem refnever_fin {t : Tm} {n d : Nat} (h : Fin t n d) (w : World) : Calls Try.prog 31 #[.agg #[.int .i64 n, .int .i64 d]] w fun e w' => e = .returned (.bool false) ∧ Only [] w w' := by
  have := refnever_f (t := t) h.ne w
  rw [h.eq] at this
  exact this
theorem refr_fin {t : Tm} {n d : Nat} (h : Fin t n d) (w : World) : Calls Try.prog 30 #[.agg #[.int .i64 n, .int .i64 d]] w fun e w' => e = .returned (.bool true) ∧ Only [] w w' := by
  have := refr_t (t := t) h.ok h.right w
  rw [h.eq] at this
  exact this
theorem refr_nv (w : World) : Calls Try.prog 30 #[.agg #[.int .i64 1, .int .i64 0]] w fun e w' => e = .returned (.bool true) ∧ Only [] w w' := refr_t ok_never right_never w
theorem Fin.len {t : Tm} {n d : Nat} (h : Fin t n d) : (toD n).length ≤ 5 ∧ (toD d).length ≤ 5 ∧ n ≤ 9223372036854775807 ∧ d ≤ 9223372036854775807 := by
  have h1 := h.ln; have h2 := h.ld
  unfold mostI at h1 h2
  exact ⟨toD_len_le (by omega), toD_len_le (by omega), h1, h2⟩
theorem toD_mul_len {n k : Nat} (hn : n ≤ 9223372036854775807) (hk : k ≤ 9223372036854775807) : (toD (n * k)).length ≤ 10 := by
  have h1 : n * k ≤ 9223372036854775807 * 9223372036854775807 := Nat.mul_le_mul hn hk
  exact toD_len_le (by omega)

set_option maxHeartbeats 2000000 in
theorem refcmp_w1 (a b : Tm) (ha : a.ok) (ra : a.right = false) (w : World) :
    Calls Try.prog 43 #[.agg #[.int .i64 a.1, .int .i64 a.2], .agg #[.int .i64 b.1, .int .i64 b.2]] w fun e w' => e = .returned (.int .i64 0) ∧ Only [] w w' := by
  have RA := Lib.hid ra
  clear ra
  have O0 := Lib.hid (Only.refl [] w)
  go_enter Try.func43, Try.ntmps43
  go_wp2_with (fail)
  refine (refr_f ha RA.out _).mono ?_
  rintro e w1 ⟨rfl, o⟩
  have B0n : Blk (w.alloc (.cells #[.int .i64 a.1, .int .i64 a.2] 24)) (w.heap.size) 24 #[.int .i64 a.1, .int .i64 a.2] := (by have h := Blk.new w 24 #[.int .i64 a.1, .int .i64 a.2]; simpa using h)
  have B1n : Blk ((w.alloc (.cells #[.int .i64 a.1, .int .i64 a.2] 24)).alloc (.cells #[.int .i64 b.1, .int .i64 b.2] 24)) (w.heap.size + 1) 24 #[.int .i64 b.1, .int .i64 b.2] := (by have h := Blk.new (w.alloc (.cells #[.int .i64 a.1, .int .i64 a.2] 24)) 24 #[.int .i64 b.1, .int .i64 b.2]; simpa using h)
  have B0x := o.blk (t := 24) (cs := #[.int .i64 a.1, .int .i64 a.2]) (g := w.heap.size) (by first | exact (B0n.alloc _) | exact Blk.drewN (B0n.alloc _) _ | exact Blk.drew (B0n.alloc _)) (by simp)
  have B1x := o.blk (t := 24) (cs := #[.int .i64 b.1, .int .i64 b.2]) (g := w.heap.size + 1) (by first | exact B1n | exact Blk.drewN B1n _ | exact Blk.drew B1n) (by simp)
  have O1x : Only [] w w1 := (by first | exact Only.trans ((O0.out.alloc _).alloc _) o (by simp) | exact Only.trans (Only.drewN ((O0.out.alloc _).alloc _) _) o (by simp) | exact Only.trans (Only.drew ((O0.out.alloc _).alloc _)) o (by simp))
  obtain ⟨B0c0, B0c1, B0l⟩ := B0x.facts2
  obtain ⟨B1c0, B1c1, B1l⟩ := B1x.facts2
  clear B0n B1n O0 o
  have B0 := Lib.hid B0x; have B1 := Lib.hid B1x; have O1 := Lib.hid O1x
  clear B0x B1x O1x
  go_wp2_with (fail)
  go_ret
  exact ⟨rfl, O1.out⟩

set_option maxHeartbeats 2000000 in
theorem refcmp_w2 (a b : Tm) (ha : a.ok) (hb : b.ok) (ra : a.right = true) (rb : b.right = false) (w : World) :
    Calls Try.prog 43 #[.agg #[.int .i64 a.1, .int .i64 a.2], .agg #[.int .i64 b.1, .int .i64 b.2]] w fun e w' => e = .returned (.int .i64 0) ∧ Only [] w w' := by
  have RA := Lib.hid ra
  have RB := Lib.hid rb
  clear ra rb
  have O0 := Lib.hid (Only.refl [] w)
  go_enter Try.func43, Try.ntmps43
  go_wp2_with (fail)
  refine (refr_t ha RA.out _).mono ?_
  rintro e w1 ⟨rfl, o⟩
  have B0n : Blk (w.alloc (.cells #[.int .i64 a.1, .int .i64 a.2] 24)) (w.heap.size) 24 #[.int .i64 a.1, .int .i64 a.2] := (by have h := Blk.new w 24 #[.int .i64 a.1, .int .i64 a.2]; simpa using h)
  have B1n : Blk ((w.alloc (.cells #[.int .i64 a.1, .int .i64 a.2] 24)).alloc (.cells #[.int .i64 b.1, .int .i64 b.2] 24)) (w.heap.size + 1) 24 #[.int .i64 b.1, .int .i64 b.2] := (by have h := Blk.new (w.alloc (.cells #[.int .i64 a.1, .int .i64 a.2] 24)) 24 #[.int .i64 b.1, .int .i64 b.2]; simpa using h)
  have B0x := o.blk (t := 24) (cs := #[.int .i64 a.1, .int .i64 a.2]) (g := w.heap.size) (by first | exact (B0n.alloc _) | exact Blk.drewN (B0n.alloc _) _ | exact Blk.drew (B0n.alloc _)) (by simp)
  have B1x := o.blk (t := 24) (cs := #[.int .i64 b.1, .int .i64 b.2]) (g := w.heap.size + 1) (by first | exact B1n | exact Blk.drewN B1n _ | exact Blk.drew B1n) (by simp)
  have O1x : Only [] w w1 := (by first | exact Only.trans ((O0.out.alloc _).alloc _) o (by simp) | exact Only.trans (Only.drewN ((O0.out.alloc _).alloc _) _) o (by simp) | exact Only.trans (Only.drew ((O0.out.alloc _).alloc _)) o (by simp))
  obtain ⟨B0c0, B0c1, B0l⟩ := B0x.facts2
  obtain ⟨B1c0, B1c1, B1l⟩ := B1x.facts2
  clear B0n B1n O0 o
  have B0 := Lib.hid B0x; have B1 := Lib.hid B1x; have O1 := Lib.hid O1x
  clear B0x B1x O1x
  go_wp2_with (fail)
  refine (refr_f hb RB.out _).mono ?_
  rintro e w2 ⟨rfl, o⟩
  have B0x := o.blk (t := 24) (cs := #[.int .i64 a.1, .int .i64 a.2]) (g := w.heap.size) (by first | exact B0.out | exact Blk.drewN B0.out _ | exact Blk.drew B0.out) (by simp)
  have B1x := o.blk (t := 24) (cs := #[.int .i64 b.1, .int .i64 b.2]) (g := w.heap.size + 1) (by first | exact B1.out | exact Blk.drewN B1.out _ | exact Blk.drew B1.out) (by simp)
  have O2x : Only [] w w2 := (by first | exact Only.trans O1.out o (by simp) | exact Only.trans (Only.drewN O1.out _) o (by simp) | exact Only.trans (Only.drew O1.out) o (by simp))
  obtain ⟨B0c0, B0c1, B0l⟩ := B0x.facts2
  obtain ⟨B1c0, B1c1, B1l⟩ := B1x.facts2
  clear B0 B1 O1 o
  have B0 := Lib.hid B0x; have B1 := Lib.hid B1x; have O2 := Lib.hid O2x
  clear B0x B1x O2x
  go_wp2_with (fail)
  go_ret
  exact ⟨rfl, O2.out⟩

set_option maxHeartbeats 2000000 in
theorem refcmp_same (a : Tm) (ha : a.ok) (ra : a.right = true) (w : World) :
    Calls Try.prog 43 #[.agg #[.int .i64 a.1, .int .i64 a.2], .agg #[.int .i64 a.1, .int .i64 a.2]] w fun e w' => e = .returned (.int .i64 0) ∧ Only [] w w' := by
  have RA := Lib.hid ra
  clear ra
  have hEQ := eq_timesT a
  have O0 := Lib.hid (Only.refl [] w)
  go_enter Try.func43, Try.ntmps43
  go_wp2_with (fail)
  refine (refr_t ha RA.out _).mono ?_
  rintro e w1 ⟨rfl, o⟩
  have B0n : Blk (w.alloc (.cells #[.int .i64 a.1, .int .i64 a.2] 24)) (w.heap.size) 24 #[.int .i64 a.1, .int .i64 a.2] := (by have h := Blk.new w 24 #[.int .i64 a.1, .int .i64 a.2]; simpa using h)
  have B1n : Blk ((w.alloc (.cells #[.int .i64 a.1, .int .i64 a.2] 24)).alloc (.cells #[.int .i64 a.1, .int .i64 a.2] 24)) (w.heap.size + 1) 24 #[.int .i64 a.1, .int .i64 a.2] := (by have h := Blk.new (w.alloc (.cells #[.int .i64 a.1, .int .i64 a.2] 24)) 24 #[.int .i64 a.1, .int .i64 a.2]; simpa using h)
  have B0x := o.blk (t := 24) (cs := #[.int .i64 a.1, .int .i64 a.2]) (g := w.heap.size) (by first | exact (B0n.alloc _) | exact Blk.drewN (B0n.alloc _) _ | exact Blk.drew (B0n.alloc _)) (by simp)
  have B1x := o.blk (t := 24) (cs := #[.int .i64 a.1, .int .i64 a.2]) (g := w.heap.size + 1) (by first | exact B1n | exact Blk.drewN B1n _ | exact Blk.drew B1n) (by simp)
  have O1x : Only [] w w1 := (by first | exact Only.trans ((O0.out.alloc _).alloc _) o (by simp) | exact Only.trans (Only.drewN ((O0.out.alloc _).alloc _) _) o (by simp) | exact Only.trans (Only.drew ((O0.out.alloc _).alloc _)) o (by simp))
  obtain ⟨B0c0, B0c1, B0l⟩ := B0x.facts2
  obtain ⟨B1c0, B1c1, B1l⟩ := B1x.facts2
  clear B0n B1n O0 o
  have B0 := Lib.hid B0x; have B1 := Lib.hid B1x; have O1 := Lib.hid O1x
  clear B0x B1x O1x
  go_wp2_with (fail)
  refine (refr_t ha RA.out _).mono ?_
  rintro e w2 ⟨rfl, o⟩
  have B0x := o.blk (t := 24) (cs := #[.int .i64 a.1, .int .i64 a.2]) (g := w.heap.size) (by first | exact B0.out | exact Blk.drewN B0.out _ | exact Blk.drew B0.out) (by simp)
  have B1x := o.blk (t := 24) (cs := #[.int .i64 a.1, .int .i64 a.2]) (g := w.heap.size + 1) (by first | exact B1.out | exact Blk.drewN B1.out _ | exact Blk.drew B1.out) (by simp)
  have O2x : Only [] w w2 := (by first | exact Only.trans O1.out o (by simp) | exact Only.trans (Only.drewN O1.out _) o (by simp) | exact Only.trans (Only.drew O1.out) o (by simp))
  obtain ⟨B0c0, B0c1, B0l⟩ := B0x.facts2
  obtain ⟨B1c0, B1c1, B1l⟩ := B1x.facts2
  clear B0 B1 O1 o
  have B0 := Lib.hid B0x; have B1 := Lib.hid B1x; have O2 := Lib.hid O2x
  clear B0x B1x O2x
  go_wp2_with (fail)
  go_ret
  exact ⟨rfl, O2.out⟩

set_option maxHeartbeats 2000000 in
theorem refcmp_nl (b : Tm) (m k : Nat) (fb : Fin b m k) (w : World) :
    Calls Try.prog 43 #[.agg #[.int .i64 1, .int .i64 0], .agg #[.int .i64 m, .int .i64 k]] w fun e w' => e = .returned (.int .i64 1) ∧ Only [] w w' := by
  have hEQ : ∀ W, (binOp .eql 24 (.agg #[.int .i64 1, .int .i64 0]) (.agg #[.int .i64 m, .int .i64 k])).run Try.prog W = .ok (.bool false) W := fun W => by rw [eq_times, decide_eq_false (fun h => by have := fb.pos; omega)]
  have O0 := Lib.hid (Only.refl [] w)
  go_enter Try.func43, Try.ntmps43
  go_wp2_with (fail)
  refine (refr_nv _).mono ?_
  rintro e w1 ⟨rfl, o⟩
  have B0n : Blk (w.alloc (.cells #[.int .i64 1, .int .i64 0] 24)) (w.heap.size) 24 #[.int .i64 1, .int .i64 0] := (by have h := Blk.new w 24 #[.int .i64 1, .int .i64 0]; simpa using h)
  have B1n : Blk ((w.alloc (.cells #[.int .i64 1, .int .i64 0] 24)).alloc (.cells #[.int .i64 m, .int .i64 k] 24)) (w.heap.size + 1) 24 #[.int .i64 m, .int .i64 k] := (by have h := Blk.new (w.alloc (.cells #[.int .i64 1, .int .i64 0] 24)) 24 #[.int .i64 m, .int .i64 k]; simpa using h)
  have B0x := o.blk (t := 24) (cs := #[.int .i64 1, .int .i64 0]) (g := w.heap.size) (by first | exact (B0n.alloc _) | exact Blk.drewN (B0n.alloc _) _ | exact Blk.drew (B0n.alloc _)) (by simp)
  have B1x := o.blk (t := 24) (cs := #[.int .i64 m, .int .i64 k]) (g := w.heap.size + 1) (by first | exact B1n | exact Blk.drewN B1n _ | exact Blk.drew B1n) (by simp)
  have O1x : Only [] w w1 := (by first | exact Only.trans ((O0.out.alloc _).alloc _) o (by simp) | exact Only.trans (Only.drewN ((O0.out.alloc _).alloc _) _) o (by simp) | exact Only.trans (Only.drew ((O0.out.alloc _).alloc _)) o (by simp))
  obtain ⟨B0c0, B0c1, B0l⟩ := B0x.facts2
  obtain ⟨B1c0, B1c1, B1l⟩ := B1x.facts2
  clear B0n B1n O0 o
  have B0 := Lib.hid B0x; have B1 := Lib.hid B1x; have O1 := Lib.hid O1x
  clear B0x B1x O1x
  go_wp2_with (fail)
  refine (refr_fin fb _).mono ?_
  rintro e w2 ⟨rfl, o⟩
  have B0x := o.blk (t := 24) (cs := #[.int .i64 1, .int .i64 0]) (g := w.heap.size) (by first | exact B0.out | exact Blk.drewN B0.out _ | exact Blk.drew B0.out) (by simp)
  have B1x := o.blk (t := 24) (cs := #[.int .i64 m, .int .i64 k]) (g := w.heap.size + 1) (by first | exact B1.out | exact Blk.drewN B1.out _ | exact Blk.drew B1.out) (by simp)
  have O2x : Only [] w w2 := (by first | exact Only.trans O1.out o (by simp) | exact Only.trans (Only.drewN O1.out _) o (by simp) | exact Only.trans (Only.drew O1.out) o (by simp))
  obtain ⟨B0c0, B0c1, B0l⟩ := B0x.facts2
  obtain ⟨B1c0, B1c1, B1l⟩ := B1x.facts2
  clear B0 B1 O1 o
  have B0 := Lib.hid B0x; have B1 := Lib.hid B1x; have O2 := Lib.hid O2x
  clear B0x B1x O2x
  go_wp2_with (fail)
  refine (refnever_t _).mono ?_
  rintro e w3 ⟨rfl, o⟩
  have B0x := o.blk (t := 24) (cs := #[.int .i64 1, .int .i64 0]) (g := w.heap.size) (by first | exact B0.out | exact Blk.drewN B0.out _ | exact Blk.drew B0.out) (by simp)
  have B1x := o.blk (t := 24) (cs := #[.int .i64 m, .int .i64 k]) (g := w.heap.size + 1) (by first | exact B1.out | exact Blk.drewN B1.out _ | exact Blk.drew B1.out) (by simp)
  have O3x : Only [] w w3 := (by first | exact Only.trans O2.out o (by simp) | exact Only.trans (Only.drewN O2.out _) o (by simp) | exact Only.trans (Only.drew O2.out) o (by simp))
  obtain ⟨B0c0, B0c1, B0l⟩ := B0x.facts2
  obtain ⟨B1c0, B1c1, B1l⟩ := B1x.facts2
  clear B0 B1 O2 o
  have B0 := Lib.hid B0x; have B1 := Lib.hid B1x; have O3 := Lib.hid O3x
  clear B0x B1x O3x
  go_wp2_with (fail)
  go_ret
  exact ⟨rfl, O3.out⟩

set_option maxHeartbeats 2000000 in
theorem refcmp_nr (a : Tm) (n d : Nat) (fa : Fin a n d) (w : World) :
    Calls Try.prog 43 #[.agg #[.int .i64 n, .int .i64 d], .agg #[.int .i64 1, .int .i64 0]] w fun e w' => e = .returned (.int .i64 (-1)) ∧ Only [] w w' := by
  have hEQ : ∀ W, (binOp .eql 24 (.agg #[.int .i64 n, .int .i64 d]) (.agg #[.int .i64 1, .int .i64 0])).run Try.prog W = .ok (.bool false) W := fun W => by rw [eq_times, decide_eq_false (fun h => by have := fa.pos; omega)]
  have O0 := Lib.hid (Only.refl [] w)
  go_enter Try.func43, Try.ntmps43
  go_wp2_with (fail)
  refine (refr_fin fa _).mono ?_
  rintro e w1 ⟨rfl, o⟩
  have B0n : Blk (w.alloc (.cells #[.int .i64 n, .int .i64 d] 24)) (w.heap.size) 24 #[.int .i64 n, .int .i64 d] := (by have h := Blk.new w 24 #[.int .i64 n, .int .i64 d]; simpa using h)
  have B1n : Blk ((w.alloc (.cells #[.int .i64 n, .int .i64 d] 24)).alloc (.cells #[.int .i64 1, .int .i64 0] 24)) (w.heap.size + 1) 24 #[.int .i64 1, .int .i64 0] := (by have h := Blk.new (w.alloc (.cells #[.int .i64 n, .int .i64 d] 24)) 24 #[.int .i64 1, .int .i64 0]; simpa using h)
  have B0x := o.blk (t := 24) (cs := #[.int .i64 n, .int .i64 d]) (g := w.heap.size) (by first | exact (B0n.alloc _) | exact Blk.drewN (B0n.alloc _) _ | exact Blk.drew (B0n.alloc _)) (by simp)
  have B1x := o.blk (t := 24) (cs := #[.int .i64 1, .int .i64 0]) (g := w.heap.size + 1) (by first | exact B1n | exact Blk.drewN B1n _ | exact Blk.drew B1n) (by simp)
  have O1x : Only [] w w1 := (by first | exact Only.trans ((O0.out.alloc _).alloc _) o (by simp) | exact Only.trans (Only.drewN ((O0.out.alloc _).alloc _) _) o (by simp) | exact Only.trans (Only.drew ((O0.out.alloc _).alloc _)) o (by simp))
  obtain ⟨B0c0, B0c1, B0l⟩ := B0x.facts2
  obtain ⟨B1c0, B1c1, B1l⟩ := B1x.facts2
  clear B0n B1n O0 o
  have B0 := Lib.hid B0x; have B1 := Lib.hid B1x; have O1 := Lib.hid O1x
  clear B0x B1x O1x
  go_wp2_with (fail)
  refine (refr_nv _).mono ?_
  rintro e w2 ⟨rfl, o⟩
  have B0x := o.blk (t := 24) (cs := #[.int .i64 n, .int .i64 d]) (g := w.heap.size) (by first | exact B0.out | exact Blk.drewN B0.out _ | exact Blk.drew B0.out) (by simp)
  have B1x := o.blk (t := 24) (cs := #[.int .i64 1, .int .i64 0]) (g := w.heap.size + 1) (by first | exact B1.out | exact Blk.drewN B1.out _ | exact Blk.drew B1.out) (by simp)
  have O2x : Only [] w w2 := (by first | exact Only.trans O1.out o (by simp) | exact Only.trans (Only.drewN O1.out _) o (by simp) | exact Only.trans (Only.drew O1.out) o (by simp))
  obtain ⟨B0c0, B0c1, B0l⟩ := B0x.facts2
  obtain ⟨B1c0, B1c1, B1l⟩ := B1x.facts2
  clear B0 B1 O1 o
  have B0 := Lib.hid B0x; have B1 := Lib.hid B1x; have O2 := Lib.hid O2x
  clear B0x B1x O2x
  go_wp2_with (fail)
  refine (refnever_fin fa _).mono ?_
  rintro e w3 ⟨rfl, o⟩
  have B0x := o.blk (t := 24) (cs := #[.int .i64 n, .int .i64 d]) (g := w.heap.size) (by first | exact B0.out | exact Blk.drewN B0.out _ | exact Blk.drew B0.out) (by simp)
  have B1x := o.blk (t := 24) (cs := #[.int .i64 1, .int .i64 0]) (g := w.heap.size + 1) (by first | exact B1.out | exact Blk.drewN B1.out _ | exact Blk.drew B1.out) (by simp)
  have O3x : Only [] w w3 := (by first | exact Only.trans O2.out o (by simp) | exact Only.trans (Only.drewN O2.out _) o (by simp) | exact Only.trans (Only.drew O2.out) o (by simp))
  obtain ⟨B0c0, B0c1, B0l⟩ := B0x.facts2
  obtain ⟨B1c0, B1c1, B1l⟩ := B1x.facts2
  clear B0 B1 O2 o
  have B0 := Lib.hid B0x; have B1 := Lib.hid B1x; have O3 := Lib.hid O3x
  clear B0x B1x O3x
  go_wp2_with (fail)
  refine (refnever_t _).mono ?_
  rintro e w4 ⟨rfl, o⟩
  have B0x := o.blk (t := 24) (cs := #[.int .i64 n, .int .i64 d]) (g := w.heap.size) (by first | exact B0.out | exact Blk.drewN B0.out _ | exact Blk.drew B0.out) (by simp)
  have B1x := o.blk (t := 24) (cs := #[.int .i64 1, .int .i64 0]) (g := w.heap.size + 1) (by first | exact B1.out | exact Blk.drewN B1.out _ | exact Blk.drew B1.out) (by simp)
  have O4x : Only [] w w4 := (by first | exact Only.trans O3.out o (by simp) | exact Only.trans (Only.drewN O3.out _) o (by simp) | exact Only.trans (Only.drew O3.out) o (by simp))
  obtain ⟨B0c0, B0c1, B0l⟩ := B0x.facts2
  obtain ⟨B1c0, B1c1, B1l⟩ := B1x.facts2
  clear B0 B1 O3 o
  have B0 := Lib.hid B0x; have B1 := Lib.hid B1x; have O4 := Lib.hid O4x
  clear B0x B1x O4x
  go_wp2_with (fail)
  go_ret
  exact ⟨rfl, O4.out⟩

set_option maxHeartbeats 2000000 in
theorem refcmp_ff (a b : Tm) (n d m k : Nat) (fa : Fin a n d) (fb : Fin b m k) (hne : ¬ ((n : Int) = m ∧ (d : Int) = k)) (w : World) :
    Calls Try.prog 43 #[.agg #[.int .i64 n, .int .i64 d], .agg #[.int .i64 m, .int .i64 k]] w fun e w' => e = .returned (.int .i64 (cmpN (n * k) (m * d))) ∧ Only [] w w' := by
  have hEQ : ∀ W, (binOp .eql 24 (.agg #[.int .i64 n, .int .i64 d]) (.agg #[.int .i64 m, .int .i64 k])).run Try.prog W = .ok (.bool false) W := fun W => by rw [eq_times, decide_eq_false hne]
  clear hne
  obtain ⟨ln, ld, hn, hd⟩ := fa.len
  obtain ⟨lm, lk, hm, hk⟩ := fb.len
  have lnk := toD_mul_len hn hk
  have lmd := toD_mul_len hm hd
  have O0 := Lib.hid (Only.refl [] w)
  go_enter Try.func43, Try.ntmps43
  go_wp2_with (fail)
  refine (refr_fin fa _).mono ?_
  rintro e w1 ⟨rfl, o⟩
  have B0n : Blk (w.alloc (.cells #[.int .i64 n, .int .i64 d] 24)) (w.heap.size) 24 #[.int .i64 n, .int .i64 d] := (by have h := Blk.new w 24 #[.int .i64 n, .int .i64 d]; simpa using h)
  have B1n : Blk ((w.alloc (.cells #[.int .i64 n, .int .i64 d] 24)).alloc (.cells #[.int .i64 m, .int .i64 k] 24)) (w.heap.size + 1) 24 #[.int .i64 m, .int .i64 k] := (by have h := Blk.new (w.alloc (.cells #[.int .i64 n, .int .i64 d] 24)) 24 #[.int .i64 m, .int .i64 k]; simpa using h)
  have B0x := o.blk (t := 24) (cs := #[.int .i64 n, .int .i64 d]) (g := w.heap.size) (by first | exact (B0n.alloc _) | exact Blk.drewN (B0n.alloc _) _ | exact Blk.drew (B0n.alloc _)) (by simp)
  have B1x := o.blk (t := 24) (cs := #[.int .i64 m, .int .i64 k]) (g := w.heap.size + 1) (by first | exact B1n | exact Blk.drewN B1n _ | exact Blk.drew B1n) (by simp)
  have O1x : Only [] w w1 := (by first | exact Only.trans ((O0.out.alloc _).alloc _) o (by simp) | exact Only.trans (Only.drewN ((O0.out.alloc _).alloc _) _) o (by simp) | exact Only.trans (Only.drew ((O0.out.alloc _).alloc _)) o (by simp))
  obtain ⟨B0c0, B0c1, B0l⟩ := B0x.facts2
  obtain ⟨B1c0, B1c1, B1l⟩ := B1x.facts2
  clear B0n B1n O0 o
  have B0 := Lib.hid B0x; have B1 := Lib.hid B1x; have O1 := Lib.hid O1x
  clear B0x B1x O1x
  go_wp2_with (fail)
  refine (refr_fin fb _).mono ?_
  rintro e w2 ⟨rfl, o⟩
  have B0x := o.blk (t := 24) (cs := #[.int .i64 n, .int .i64 d]) (g := w.heap.size) (by first | exact B0.out | exact Blk.drewN B0.out _ | exact Blk.drew B0.out) (by simp)
  have B1x := o.blk (t := 24) (cs := #[.int .i64 m, .int .i64 k]) (g := w.heap.size + 1) (by first | exact B1.out | exact Blk.drewN B1.out _ | exact Blk.drew B1.out) (by simp)
  have O2x : Only [] w w2 := (by first | exact Only.trans O1.out o (by simp) | exact Only.trans (Only.drewN O1.out _) o (by simp) | exact Only.trans (Only.drew O1.out) o (by simp))
  obtain ⟨B0c0, B0c1, B0l⟩ := B0x.facts2
  obtain ⟨B1c0, B1c1, B1l⟩ := B1x.facts2
  clear B0 B1 O1 o
  have B0 := Lib.hid B0x; have B1 := Lib.hid B1x; have O2 := Lib.hid O2x
  clear B0x B1x O2x
  go_wp2_with (fail)
  refine (refnever_fin fa _).mono ?_
  rintro e w3 ⟨rfl, o⟩
  have B0x := o.blk (t := 24) (cs := #[.int .i64 n, .int .i64 d]) (g := w.heap.size) (by first | exact B0.out | exact Blk.drewN B0.out _ | exact Blk.drew B0.out) (by simp)
  have B1x := o.blk (t := 24) (cs := #[.int .i64 m, .int .i64 k]) (g := w.heap.size + 1) (by first | exact B1.out | exact Blk.drewN B1.out _ | exact Blk.drew B1.out) (by simp)
  have O3x : Only [] w w3 := (by first | exact Only.trans O2.out o (by simp) | exact Only.trans (Only.drewN O2.out _) o (by simp) | exact Only.trans (Only.drew O2.out) o (by simp))
  obtain ⟨B0c0, B0c1, B0l⟩ := B0x.facts2
  obtain ⟨B1c0, B1c1, B1l⟩ := B1x.facts2
  clear B0 B1 O2 o
  have B0 := Lib.hid B0x; have B1 := Lib.hid B1x; have O3 := Lib.hid O3x
  clear B0x B1x O3x
  go_wp2_with (fail)
  refine (refnever_fin fb _).mono ?_
  rintro e w4 ⟨rfl, o⟩
  have B0x := o.blk (t := 24) (cs := #[.int .i64 n, .int .i64 d]) (g := w.heap.size) (by first | exact B0.out | exact Blk.drewN B0.out _ | exact Blk.drew B0.out) (by simp)
  have B1x := o.blk (t := 24) (cs := #[.int .i64 m, .int .i64 k]) (g := w.heap.size + 1) (by first | exact B1.out | exact Blk.drewN B1.out _ | exact Blk.drew B1.out) (by simp)
  have O4x : Only [] w w4 := (by first | exact Only.trans O3.out o (by simp) | exact Only.trans (Only.drewN O3.out _) o (by simp) | exact Only.trans (Only.drew O3.out) o (by simp))
  obtain ⟨B0c0, B0c1, B0l⟩ := B0x.facts2
  obtain ⟨B1c0, B1c1, B1l⟩ := B1x.facts2
  clear B0 B1 O3 o
  have B0 := Lib.hid B0x; have B1 := Lib.hid B1x; have O4 := Lib.hid O4x
  clear B0x B1x O4x
  go_wp2_with (fail)
  refine wp_region_facts 15 [] (fr := ?fr) (tl := ?tl) (fun i v wv => match i with
    | 0 => v = .pointer (some ⟨w.heap.size, 0, none⟩)
    | 1 => v = .int .i64 n
    | 2 => Nm wv v n
    | 3 => v = .pointer (some ⟨w.heap.size + 1, 1, none⟩)
    | 4 => v = .int .i64 k
    | 5 => Nm wv v k
    | 6 => Nm wv v (n * k)
    | 7 => v = .pointer (some ⟨w.heap.size + 1, 0, none⟩)
    | 8 => v = .int .i64 m
    | 9 => Nm wv v m
    | 10 => v = .pointer (some ⟨w.heap.size, 1, none⟩)
    | 11 => v = .int .i64 d
    | 12 => Nm wv v d
    | 13 => Nm wv v (m * d)
    | 14 => v = .int .i64 (cmpN (n * k) (m * d))
    | _ => True) (by kernel_rfl) (by kernel_rfl) (by kernel_rfl) (by kernel_rfl) (by decide) ?htl ?hfr ?stab ?steps ?done
  case htl => simp only [List.drop_succ_cons, List.drop_zero]; rfl
  case hfr => intro vals; simp only [putAll, dstAt, Act.put, List.getElem?_toArray, List.getElem?_cons_zero, List.getElem?_cons_succ, Option.bind_some, List.setIfInBounds_toArray, List.set_cons_zero, List.set_cons_succ]; rfl
  case stab =>
    intro i v wa wb h
    try dsimp only
    split <;> first | exact id | (exact fun hf => Nm.only hf h)
  case steps =>
    refine ⟨?_, ?_, ?_, ?_, ?_, ?_, ?_, ?_, ?_, ?_, ?_, ?_, ?_, ?_, ?_, trivial⟩
    · intro vals wr hR hp K hK
      dsimp only at hK ⊢
      clear hp
      unfold RunsOp
      go_simp
      exact hK.out _ _ ⟨_, rfl, Only.refl _ _, rfl⟩
    · intro vals wr hR hp K hK
      dsimp only at hK ⊢
      obtain ⟨p0, -⟩ := hp
      replace p0 := p0 rfl
      dsimp only at p0
      rw [p0] at hK ⊢
      clear p0
      unfold RunsOp
      have tb := hR.blk (Blk.drew B0.out) (by simp)
      obtain ⟨c0, c1, cl⟩ := tb.facts2
      clear tb
      go_simp
      exact hK.out _ _ ⟨_, rfl, Only.refl _ _, rfl⟩
    · intro vals wr hR hp K hK
      dsimp only at hK ⊢
      obtain ⟨p1, -⟩ := hp
      replace p1 := p1 rfl
      dsimp only at p1
      rw [p1] at hK ⊢
      clear p1
      unfold RunsOp
      go_simp
      refine (from_any _ (by omega) _).mono ?_
      rintro e w2 ⟨v2, rfl, hv2, o2⟩
      exact hK.out _ _ ⟨_, rfl, o2, hv2⟩
    · intro vals wr hR hp K hK
      dsimp only at hK ⊢
      clear hp
      unfold RunsOp
      go_simp
      exact hK.out _ _ ⟨_, rfl, Only.refl _ _, rfl⟩
    · intro vals wr hR hp K hK
      dsimp only at hK ⊢
      obtain ⟨p3, -⟩ := hp
      replace p3 := p3 rfl
      dsimp only at p3
      rw [p3] at hK ⊢
      clear p3
      unfold RunsOp
      have tb := hR.blk (Blk.drew B1.out) (by simp)
      obtain ⟨c0, c1, cl⟩ := tb.facts2
      clear tb
      go_simp
      exact hK.out _ _ ⟨_, rfl, Only.refl _ _, rfl⟩
    · intro vals wr hR hp K hK
      dsimp only at hK ⊢
      obtain ⟨p4, -, -⟩ := hp
      replace p4 := p4 rfl
      dsimp only at p4
      rw [p4] at hK ⊢
      clear p4
      unfold RunsOp
      go_simp
      refine (from_any _ (by omega) _).mono ?_
      rintro e w2 ⟨v2, rfl, hv2, o2⟩
      exact hK.out _ _ ⟨_, rfl, o2, hv2⟩
    · intro vals wr hR hp K hK
      dsimp only at hK ⊢
      obtain ⟨p2, p5, -, -⟩ := hp
      replace p2 := p2 rfl
      replace p5 := p5 rfl
      dsimp only at p2 p5
      unfold RunsOp
      go_simp
      refine (muln_any p2 p5 (by omega) (by omega)).mono ?_
      rintro e w2 ⟨v2, rfl, hv2, o2⟩
      exact hK.out _ _ ⟨_, rfl, o2, hv2⟩
    · intro vals wr hR hp K hK
      dsimp only at hK ⊢
      clear hp
      unfold RunsOp
      go_simp
      exact hK.out _ _ ⟨_, rfl, Only.refl _ _, rfl⟩
    · intro vals wr hR hp K hK
      dsimp only at hK ⊢
      obtain ⟨p7, -⟩ := hp
      replace p7 := p7 rfl
      dsimp only at p7
      rw [p7] at hK ⊢
      clear p7
      unfold RunsOp
      have tb := hR.blk (Blk.drew B1.out) (by simp)
      obtain ⟨c0, c1, cl⟩ := tb.facts2
      clear tb
      go_simp
      exact hK.out _ _ ⟨_, rfl, Only.refl _ _, rfl⟩
    · intro vals wr hR hp K hK
      dsimp only at hK ⊢
      obtain ⟨p8, -, -⟩ := hp
      replace p8 := p8 rfl
      dsimp only at p8
      rw [p8] at hK ⊢
      clear p8
      unfold RunsOp
      go_simp
      refine (from_any _ (by omega) _).mono ?_
      rintro e w2 ⟨v2, rfl, hv2, o2⟩
      exact hK.out _ _ ⟨_, rfl, o2, hv2⟩
    · intro vals wr hR hp K hK
      dsimp only at hK ⊢
      clear hp
      unfold RunsOp
      go_simp
      exact hK.out _ _ ⟨_, rfl, Only.refl _ _, rfl⟩
    · intro vals wr hR hp K hK
      dsimp only at hK ⊢
      obtain ⟨p10, -⟩ := hp
      replace p10 := p10 rfl
      dsimp only at p10
      rw [p10] at hK ⊢
      clear p10
      unfold RunsOp
      have tb := hR.blk (Blk.drew B0.out) (by simp)
      obtain ⟨c0, c1, cl⟩ := tb.facts2
      clear tb
      go_simp
      exact hK.out _ _ ⟨_, rfl, Only.refl _ _, rfl⟩
    · intro vals wr hR hp K hK
      dsimp only at hK ⊢
      obtain ⟨p11, -, -⟩ := hp
      replace p11 := p11 rfl
      dsimp only at p11
      rw [p11] at hK ⊢
      clear p11
      unfold RunsOp
      go_simp
      refine (from_any _ (by omega) _).mono ?_
      rintro e w2 ⟨v2, rfl, hv2, o2⟩
      exact hK.out _ _ ⟨_, rfl, o2, hv2⟩
    · intro vals wr hR hp K hK
      dsimp only at hK ⊢
      obtain ⟨p9, p12, -, -⟩ := hp
      replace p9 := p9 rfl
      replace p12 := p12 rfl
      dsimp only at p9 p12
      unfold RunsOp
      go_simp
      refine (muln_any p9 p12 (by omega) (by omega)).mono ?_
      rintro e w2 ⟨v2, rfl, hv2, o2⟩
      exact hK.out _ _ ⟨_, rfl, o2, hv2⟩
    · intro vals wr hR hp K hK
      dsimp only at hK ⊢
      obtain ⟨p6, p13, -, -⟩ := hp
      replace p6 := p6 rfl
      replace p13 := p13 rfl
      dsimp only at p6 p13
      unfold RunsOp
      go_simp
      refine (cmpn_any p6 p13 (by omega) (by omega)).mono ?_
      rintro e w2 ⟨rfl, o2⟩
      exact hK.out _ _ ⟨_, rfl, o2, rfl⟩
  case done =>
    intro vals wd hR hF
    have f14 : vals 14 = .int .i64 (cmpN (n * k) (m * d)) := hF 14 (by decide)
    rw [f14]
    have O9 := Lib.hid (Only.trans (O4.out.drew) hR (by simp))
    clear hF f14 hR
    go_wp2_with (fail)
    go_ret
    exact ⟨rfl, O9.out⟩


theorem refcmp_any (a b : Tm) (ha : a.ok) (hb : b.ok) (w : World) :
    Calls Try.prog 43 #[.agg #[.int .i64 a.1, .int .i64 a.2], .agg #[.int .i64 b.1, .int .i64 b.2]] w fun e w' => e = .returned (.int .i64 (cmpT a b)) ∧ Only [] w w' := by
  by_cases ra : a.right = true
  · by_cases rb : b.right = true
    · by_cases hab : a = b
      · subst hab
        rw [cmp_self]
        exact refcmp_same a ha ra w
      · rcases right_cases ha ra with rfl | ⟨n, d, fa⟩
        · rcases right_cases hb rb with rfl | ⟨m, k, fb⟩
          · exact absurd rfl hab
          · rw [cmp_never_l fb]
            have := refcmp_nl b m k fb w
            rw [fb.eq]; exact this
        · rcases right_cases hb rb with rfl | ⟨m, k, fb⟩
          · rw [cmp_never_r fa]
            have := refcmp_nr a n d fa w
            rw [fa.eq]; exact this
          · rw [cmp_fin fa fb]
            have hne : ¬ ((n : Int) = m ∧ (d : Int) = k) := fun h => hab (by rw [fa.eq, fb.eq, h.1, h.2])
            have := refcmp_ff a b n d m k fa fb hne w
            unfold cmpN at this
            rw [fa.eq, fb.eq]; exact this
    · rw [cmp_wrong_ (fun h => rb h.2)]
      exact refcmp_w2 a b ha hb ra (by simpa using rb) w
  · rw [cmp_wrong_ (fun h => ra h.1)]
    exact refcmp_w1 a b ha (by simpa using ra) w
end Go.Proofs.Ytcggeogpanackaa
