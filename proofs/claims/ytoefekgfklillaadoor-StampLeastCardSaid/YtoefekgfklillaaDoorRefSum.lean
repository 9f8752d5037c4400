/- The reference's Add and Sub, walked. -/
import Derived.Test.YtoefekgfklillaaDoorRefCmp
namespace Go.Proofs.YtoefekgfklillaaDoor
open Go.RowKit Go.Kx
set_option maxRecDepth 20000

theorem refcmpr (a b : Tm) (ha : a.ok) (hb : b.ok) {x : Int} (h : cmpT a b = x) (w : World) :
    Calls Tryd.prog 33 #[.agg #[.int .i64 a.1, .int .i64 a.2], .agg #[.int .i64 b.1, .int .i64 b.2]] w fun r w' => r = .returned (.int .i64 x) ∧ Only [] w w' := by
  have := refcmp_any a b ha hb w
  rwa [h] at this
theorem refcmp_fin {a b : Tm} {n d m k : Nat} (fa : Fin a n d) (fb : Fin b m k) {x : Int} (h : cmpT a b = x) (w : World) :
    Calls Tryd.prog 33 #[.agg #[.int .i64 n, .int .i64 d], .agg #[.int .i64 m, .int .i64 k]] w fun r w' => r = .returned (.int .i64 x) ∧ Only [] w w' := by
  have := refcmpr a b fa.ok fb.ok h w
  rw [fa.eq, fb.eq] at this
  exact this
theorem refcmp_nf {b : Tm} {m k : Nat} (fb : Fin b m k) (w : World) :
    Calls Tryd.prog 33 #[.agg #[.int .i64 1, .int .i64 0], .agg #[.int .i64 m, .int .i64 k]] w fun r w' => r = .returned (.int .i64 1) ∧ Only [] w w' := by
  have := refcmpr (1, 0) b ok_never fb.ok (cmp_never_l fb) w
  rw [fb.eq] at this
  exact this
theorem toD_sum_len {n k m d : Nat} (hn : n ≤ 9223372036854775807) (hk : k ≤ 9223372036854775807) (hm : m ≤ 9223372036854775807) (hd : d ≤ 9223372036854775807) : (toD (n * k + m * d)).length ≤ 10 := by
  have h1 : n * k ≤ 9223372036854775807 * 9223372036854775807 := Nat.mul_le_mul hn hk
  have h2 : m * d ≤ 9223372036854775807 * 9223372036854775807 := Nat.mul_le_mul hm hd
  exact toD_len_le (by omega)
theorem toD_dif_len {n k : Nat} (hn : n ≤ 9223372036854775807) (hk : k ≤ 9223372036854775807) (x : Nat) : (toD (n * k - x)).length ≤ 10 := by
  have h1 : n * k ≤ 9223372036854775807 * 9223372036854775807 := Nat.mul_le_mul hn hk
  exact toD_len_le (by omega)

set_option maxHeartbeats 2000000 in
theorem refadd_w1 (a b : Tm) (ha : a.ok) (ra : a.right = false) (w : World) :
    Calls Tryd.prog 38 #[.agg #[.int .i64 a.1, .int .i64 a.2], .agg #[.int .i64 b.1, .int .i64 b.2]] w fun e w' => e = .returned (.tuple #[.agg #[.int .i64 0, .int .i64 0], .int .i64 1]) ∧ Only [] w w' := by
  have RA := Lib.hid ra
  clear ra
  have O0 := Lib.hid (Only.refl [] w)
  go_enter Tryd.func38, Tryd.ntmps38
  go_wp2_with (fail)
  refine (refr_f ha RA.out _).mono ?_
  rintro e w1 ⟨rfl, o⟩
  have B0n : Blk (w.alloc (.cells #[.int .i64 a.1, .int .i64 a.2] 23)) (w.heap.size) 23 #[.int .i64 a.1, .int .i64 a.2] := (by have h := Blk.new w 23 #[.int .i64 a.1, .int .i64 a.2]; simpa using h)
  have B1n : Blk ((w.alloc (.cells #[.int .i64 a.1, .int .i64 a.2] 23)).alloc (.cells #[.int .i64 b.1, .int .i64 b.2] 23)) (w.heap.size + 1) 23 #[.int .i64 b.1, .int .i64 b.2] := (by have h := Blk.new (w.alloc (.cells #[.int .i64 a.1, .int .i64 a.2] 23)) 23 #[.int .i64 b.1, .int .i64 b.2]; simpa using h)
  have B2n : Blk (((w.alloc (.cells #[.int .i64 a.1, .int .i64 a.2] 23)).alloc (.cells #[.int .i64 b.1, .int .i64 b.2] 23)).alloc (.cells #[.int .i64 0, .int .i64 0] 23)) (w.heap.size + 2) 23 #[.int .i64 0, .int .i64 0] := (by have h := Blk.new ((w.alloc (.cells #[.int .i64 a.1, .int .i64 a.2] 23)).alloc (.cells #[.int .i64 b.1, .int .i64 b.2] 23)) 23 #[.int .i64 0, .int .i64 0]; simpa using h)
  have B0x := o.blk (t := 23) (cs := #[.int .i64 a.1, .int .i64 a.2]) (g := w.heap.size) (by first | exact ((B0n.alloc _).alloc _) | exact Blk.drewN ((B0n.alloc _).alloc _) _ | exact Blk.drew ((B0n.alloc _).alloc _)) (by simp)
  have B1x := o.blk (t := 23) (cs := #[.int .i64 b.1, .int .i64 b.2]) (g := w.heap.size + 1) (by first | exact (B1n.alloc _) | exact Blk.drewN (B1n.alloc _) _ | exact Blk.drew (B1n.alloc _)) (by simp)
  have B2x := o.blk (t := 23) (cs := #[.int .i64 0, .int .i64 0]) (g := w.heap.size + 2) (by first | exact B2n | exact Blk.drewN B2n _ | exact Blk.drew B2n) (by simp)
  have O1x : Only [] w w1 := (by first | exact Only.trans (((O0.out.alloc _).alloc _).alloc _) o (by simp) | exact Only.trans (Only.drewN (((O0.out.alloc _).alloc _).alloc _) _) o (by simp) | exact Only.trans (Only.drew (((O0.out.alloc _).alloc _).alloc _)) o (by simp))
  obtain ⟨B0c0, B0c1, B0l⟩ := B0x.facts2
  obtain ⟨B1c0, B1c1, B1l⟩ := B1x.facts2
  obtain ⟨B2c0, B2c1, B2l⟩ := B2x.facts2
  clear B0n B1n B2n O0 o
  have B0 := Lib.hid B0x; have B1 := Lib.hid B1x; have B2 := Lib.hid B2x; have O1 := Lib.hid O1x
  clear B0x B1x B2x O1x
  have fr0 := B2.out.frozen 0
  have fr1 := B2.out.frozen 1
  go_wp2_with (fail)
  exact bodyPost_ret (v := .tuple #[.agg #[.int .i64 0, .int .i64 0], .int .i64 1]) (by simp [results, Tryd.results38, go_sem, B2c0, B2c1]) rfl ⟨rfl, only_two O1.out (by simp; omega) (by simp; omega) _ _⟩

set_option maxHeartbeats 2000000 in
theorem refadd_w2 (a b : Tm) (ha : a.ok) (hb : b.ok) (ra : a.right = true) (rb : b.right = false) (w : World) :
    Calls Tryd.prog 38 #[.agg #[.int .i64 a.1, .int .i64 a.2], .agg #[.int .i64 b.1, .int .i64 b.2]] w fun e w' => e = .returned (.tuple #[.agg #[.int .i64 0, .int .i64 0], .int .i64 1]) ∧ Only [] w w' := by
  have RA := Lib.hid ra
  have RB := Lib.hid rb
  clear ra rb
  have O0 := Lib.hid (Only.refl [] w)
  go_enter Tryd.func38, Tryd.ntmps38
  go_wp2_with (fail)
  refine (refr_t ha RA.out _).mono ?_
  rintro e w1 ⟨rfl, o⟩
  have B0n : Blk (w.alloc (.cells #[.int .i64 a.1, .int .i64 a.2] 23)) (w.heap.size) 23 #[.int .i64 a.1, .int .i64 a.2] := (by have h := Blk.new w 23 #[.int .i64 a.1, .int .i64 a.2]; simpa using h)
  have B1n : Blk ((w.alloc (.cells #[.int .i64 a.1, .int .i64 a.2] 23)).alloc (.cells #[.int .i64 b.1, .int .i64 b.2] 23)) (w.heap.size + 1) 23 #[.int .i64 b.1, .int .i64 b.2] := (by have h := Blk.new (w.alloc (.cells #[.int .i64 a.1, .int .i64 a.2] 23)) 23 #[.int .i64 b.1, .int .i64 b.2]; simpa using h)
  have B2n : Blk (((w.alloc (.cells #[.int .i64 a.1, .int .i64 a.2] 23)).alloc (.cells #[.int .i64 b.1, .int .i64 b.2] 23)).alloc (.cells #[.int .i64 0, .int .i64 0] 23)) (w.heap.size + 2) 23 #[.int .i64 0, .int .i64 0] := (by have h := Blk.new ((w.alloc (.cells #[.int .i64 a.1, .int .i64 a.2] 23)).alloc (.cells #[.int .i64 b.1, .int .i64 b.2] 23)) 23 #[.int .i64 0, .int .i64 0]; simpa using h)
  have B0x := o.blk (t := 23) (cs := #[.int .i64 a.1, .int .i64 a.2]) (g := w.heap.size) (by first | exact ((B0n.alloc _).alloc _) | exact Blk.drewN ((B0n.alloc _).alloc _) _ | exact Blk.drew ((B0n.alloc _).alloc _)) (by simp)
  have B1x := o.blk (t := 23) (cs := #[.int .i64 b.1, .int .i64 b.2]) (g := w.heap.size + 1) (by first | exact (B1n.alloc _) | exact Blk.drewN (B1n.alloc _) _ | exact Blk.drew (B1n.alloc _)) (by simp)
  have B2x := o.blk (t := 23) (cs := #[.int .i64 0, .int .i64 0]) (g := w.heap.size + 2) (by first | exact B2n | exact Blk.drewN B2n _ | exact Blk.drew B2n) (by simp)
  have O1x : Only [] w w1 := (by first | exact Only.trans (((O0.out.alloc _).alloc _).alloc _) o (by simp) | exact Only.trans (Only.drewN (((O0.out.alloc _).alloc _).alloc _) _) o (by simp) | exact Only.trans (Only.drew (((O0.out.alloc _).alloc _).alloc _)) o (by simp))
  obtain ⟨B0c0, B0c1, B0l⟩ := B0x.facts2
  obtain ⟨B1c0, B1c1, B1l⟩ := B1x.facts2
  obtain ⟨B2c0, B2c1, B2l⟩ := B2x.facts2
  clear B0n B1n B2n O0 o
  have B0 := Lib.hid B0x; have B1 := Lib.hid B1x; have B2 := Lib.hid B2x; have O1 := Lib.hid O1x
  clear B0x B1x B2x O1x
  go_wp2_with (fail)
  refine (refr_f hb RB.out _).mono ?_
  rintro e w2 ⟨rfl, o⟩
  have B0x := o.blk (t := 23) (cs := #[.int .i64 a.1, .int .i64 a.2]) (g := w.heap.size) (by first | exact B0.out | exact Blk.drewN B0.out _ | exact Blk.drew B0.out) (by simp)
  have B1x := o.blk (t := 23) (cs := #[.int .i64 b.1, .int .i64 b.2]) (g := w.heap.size + 1) (by first | exact B1.out | exact Blk.drewN B1.out _ | exact Blk.drew B1.out) (by simp)
  have B2x := o.blk (t := 23) (cs := #[.int .i64 0, .int .i64 0]) (g := w.heap.size + 2) (by first | exact B2.out | exact Blk.drewN B2.out _ | exact Blk.drew B2.out) (by simp)
  have O2x : Only [] w w2 := (by first | exact Only.trans O1.out o (by simp) | exact Only.trans (Only.drewN O1.out _) o (by simp) | exact Only.trans (Only.drew O1.out) o (by simp))
  obtain ⟨B0c0, B0c1, B0l⟩ := B0x.facts2
  obtain ⟨B1c0, B1c1, B1l⟩ := B1x.facts2
  obtain ⟨B2c0, B2c1, B2l⟩ := B2x.facts2
  clear B0 B1 B2 O1 o
  have B0 := Lib.hid B0x; have B1 := Lib.hid B1x; have B2 := Lib.hid B2x; have O2 := Lib.hid O2x
  clear B0x B1x B2x O2x
  have fr0 := B2.out.frozen 0
  have fr1 := B2.out.frozen 1
  go_wp2_with (fail)
  exact bodyPost_ret (v := .tuple #[.agg #[.int .i64 0, .int .i64 0], .int .i64 1]) (by simp [results, Tryd.results38, go_sem, B2c0, B2c1]) rfl ⟨rfl, only_two O2.out (by simp; omega) (by simp; omega) _ _⟩

set_option maxHeartbeats 2000000 in
theorem refadd_nl (b : Tm) (hb : b.ok) (rb : b.right = true) (w : World) :
    Calls Tryd.prog 38 #[.agg #[.int .i64 1, .int .i64 0], .agg #[.int .i64 b.1, .int .i64 b.2]] w fun e w' => e = .returned (.tuple #[.agg #[.int .i64 1, .int .i64 0], .int .i64 0]) ∧ Only [] w w' := by
  have RB := Lib.hid rb
  clear rb
  have O0 := Lib.hid (Only.refl [] w)
  go_enter Tryd.func38, Tryd.ntmps38
  go_wp2_with (fail)
  refine (refr_nv _).mono ?_
  rintro e w1 ⟨rfl, o⟩
  have B0n : Blk (w.alloc (.cells #[.int .i64 1, .int .i64 0] 23)) (w.heap.size) 23 #[.int .i64 1, .int .i64 0] := (by have h := Blk.new w 23 #[.int .i64 1, .int .i64 0]; simpa using h)
  have B1n : Blk ((w.alloc (.cells #[.int .i64 1, .int .i64 0] 23)).alloc (.cells #[.int .i64 b.1, .int .i64 b.2] 23)) (w.heap.size + 1) 23 #[.int .i64 b.1, .int .i64 b.2] := (by have h := Blk.new (w.alloc (.cells #[.int .i64 1, .int .i64 0] 23)) 23 #[.int .i64 b.1, .int .i64 b.2]; simpa using h)
  have B2n : Blk (((w.alloc (.cells #[.int .i64 1, .int .i64 0] 23)).alloc (.cells #[.int .i64 b.1, .int .i64 b.2] 23)).alloc (.cells #[.int .i64 0, .int .i64 0] 23)) (w.heap.size + 2) 23 #[.int .i64 0, .int .i64 0] := (by have h := Blk.new ((w.alloc (.cells #[.int .i64 1, .int .i64 0] 23)).alloc (.cells #[.int .i64 b.1, .int .i64 b.2] 23)) 23 #[.int .i64 0, .int .i64 0]; simpa using h)
  have B0x := o.blk (t := 23) (cs := #[.int .i64 1, .int .i64 0]) (g := w.heap.size) (by first | exact ((B0n.alloc _).alloc _) | exact Blk.drewN ((B0n.alloc _).alloc _) _ | exact Blk.drew ((B0n.alloc _).alloc _)) (by simp)
  have B1x := o.blk (t := 23) (cs := #[.int .i64 b.1, .int .i64 b.2]) (g := w.heap.size + 1) (by first | exact (B1n.alloc _) | exact Blk.drewN (B1n.alloc _) _ | exact Blk.drew (B1n.alloc _)) (by simp)
  have B2x := o.blk (t := 23) (cs := #[.int .i64 0, .int .i64 0]) (g := w.heap.size + 2) (by first | exact B2n | exact Blk.drewN B2n _ | exact Blk.drew B2n) (by simp)
  have O1x : Only [] w w1 := (by first | exact Only.trans (((O0.out.alloc _).alloc _).alloc _) o (by simp) | exact Only.trans (Only.drewN (((O0.out.alloc _).alloc _).alloc _) _) o (by simp) | exact Only.trans (Only.drew (((O0.out.alloc _).alloc _).alloc _)) o (by simp))
  obtain ⟨B0c0, B0c1, B0l⟩ := B0x.facts2
  obtain ⟨B1c0, B1c1, B1l⟩ := B1x.facts2
  obtain ⟨B2c0, B2c1, B2l⟩ := B2x.facts2
  clear B0n B1n B2n O0 o
  have B0 := Lib.hid B0x; have B1 := Lib.hid B1x; have B2 := Lib.hid B2x; have O1 := Lib.hid O1x
  clear B0x B1x B2x O1x
  go_wp2_with (fail)
  refine (refr_t hb RB.out _).mono ?_
  rintro e w2 ⟨rfl, o⟩
  have B0x := o.blk (t := 23) (cs := #[.int .i64 1, .int .i64 0]) (g := w.heap.size) (by first | exact B0.out | exact Blk.drewN B0.out _ | exact Blk.drew B0.out) (by simp)
  have B1x := o.blk (t := 23) (cs := #[.int .i64 b.1, .int .i64 b.2]) (g := w.heap.size + 1) (by first | exact B1.out | exact Blk.drewN B1.out _ | exact Blk.drew B1.out) (by simp)
  have B2x := o.blk (t := 23) (cs := #[.int .i64 0, .int .i64 0]) (g := w.heap.size + 2) (by first | exact B2.out | exact Blk.drewN B2.out _ | exact Blk.drew B2.out) (by simp)
  have O2x : Only [] w w2 := (by first | exact Only.trans O1.out o (by simp) | exact Only.trans (Only.drewN O1.out _) o (by simp) | exact Only.trans (Only.drew O1.out) o (by simp))
  obtain ⟨B0c0, B0c1, B0l⟩ := B0x.facts2
  obtain ⟨B1c0, B1c1, B1l⟩ := B1x.facts2
  obtain ⟨B2c0, B2c1, B2l⟩ := B2x.facts2
  clear B0 B1 B2 O1 o
  have B0 := Lib.hid B0x; have B1 := Lib.hid B1x; have B2 := Lib.hid B2x; have O2 := Lib.hid O2x
  clear B0x B1x B2x O2x
  go_wp2_with (fail)
  refine (refnever_t _).mono ?_
  rintro e w3 ⟨rfl, o⟩
  have B0x := o.blk (t := 23) (cs := #[.int .i64 1, .int .i64 0]) (g := w.heap.size) (by first | exact B0.out | exact Blk.drewN B0.out _ | exact Blk.drew B0.out) (by simp)
  have B1x := o.blk (t := 23) (cs := #[.int .i64 b.1, .int .i64 b.2]) (g := w.heap.size + 1) (by first | exact B1.out | exact Blk.drewN B1.out _ | exact Blk.drew B1.out) (by simp)
  have B2x := o.blk (t := 23) (cs := #[.int .i64 0, .int .i64 0]) (g := w.heap.size + 2) (by first | exact B2.out | exact Blk.drewN B2.out _ | exact Blk.drew B2.out) (by simp)
  have O3x : Only [] w w3 := (by first | exact Only.trans O2.out o (by simp) | exact Only.trans (Only.drewN O2.out _) o (by simp) | exact Only.trans (Only.drew O2.out) o (by simp))
  obtain ⟨B0c0, B0c1, B0l⟩ := B0x.facts2
  obtain ⟨B1c0, B1c1, B1l⟩ := B1x.facts2
  obtain ⟨B2c0, B2c1, B2l⟩ := B2x.facts2
  clear B0 B1 B2 O2 o
  have B0 := Lib.hid B0x; have B1 := Lib.hid B1x; have B2 := Lib.hid B2x; have O3 := Lib.hid O3x
  clear B0x B1x B2x O3x
  have fr0 := B2.out.frozen 0
  have fr1 := B2.out.frozen 1
  go_wp2_with (fail)
  exact bodyPost_ret (v := .tuple #[.agg #[.int .i64 1, .int .i64 0], .int .i64 0]) (by simp [results, Tryd.results38, go_sem, B2c0, B2c1]) rfl ⟨rfl, only_two O3.out (by simp; omega) (by simp; omega) _ _⟩

set_option maxHeartbeats 2000000 in
theorem refadd_nr {a : Tm} {n d : Nat} (fa : Fin a n d) (w : World) :
    Calls Tryd.prog 38 #[.agg #[.int .i64 n, .int .i64 d], .agg #[.int .i64 1, .int .i64 0]] w fun e w' => e = .returned (.tuple #[.agg #[.int .i64 1, .int .i64 0], .int .i64 0]) ∧ Only [] w w' := by
  have O0 := Lib.hid (Only.refl [] w)
  go_enter Tryd.func38, Tryd.ntmps38
  go_wp2_with (fail)
  refine (refr_fin fa _).mono ?_
  rintro e w1 ⟨rfl, o⟩
  have B0n : Blk (w.alloc (.cells #[.int .i64 n, .int .i64 d] 23)) (w.heap.size) 23 #[.int .i64 n, .int .i64 d] := (by have h := Blk.new w 23 #[.int .i64 n, .int .i64 d]; simpa using h)
  have B1n : Blk ((w.alloc (.cells #[.int .i64 n, .int .i64 d] 23)).alloc (.cells #[.int .i64 1, .int .i64 0] 23)) (w.heap.size + 1) 23 #[.int .i64 1, .int .i64 0] := (by have h := Blk.new (w.alloc (.cells #[.int .i64 n, .int .i64 d] 23)) 23 #[.int .i64 1, .int .i64 0]; simpa using h)
  have B2n : Blk (((w.alloc (.cells #[.int .i64 n, .int .i64 d] 23)).alloc (.cells #[.int .i64 1, .int .i64 0] 23)).alloc (.cells #[.int .i64 0, .int .i64 0] 23)) (w.heap.size + 2) 23 #[.int .i64 0, .int .i64 0] := (by have h := Blk.new ((w.alloc (.cells #[.int .i64 n, .int .i64 d] 23)).alloc (.cells #[.int .i64 1, .int .i64 0] 23)) 23 #[.int .i64 0, .int .i64 0]; simpa using h)
  have B0x := o.blk (t := 23) (cs := #[.int .i64 n, .int .i64 d]) (g := w.heap.size) (by first | exact ((B0n.alloc _).alloc _) | exact Blk.drewN ((B0n.alloc _).alloc _) _ | exact Blk.drew ((B0n.alloc _).alloc _)) (by simp)
  have B1x := o.blk (t := 23) (cs := #[.int .i64 1, .int .i64 0]) (g := w.heap.size + 1) (by first | exact (B1n.alloc _) | exact Blk.drewN (B1n.alloc _) _ | exact Blk.drew (B1n.alloc _)) (by simp)
  have B2x := o.blk (t := 23) (cs := #[.int .i64 0, .int .i64 0]) (g := w.heap.size + 2) (by first | exact B2n | exact Blk.drewN B2n _ | exact Blk.drew B2n) (by simp)
  have O1x : Only [] w w1 := (by first | exact Only.trans (((O0.out.alloc _).alloc _).alloc _) o (by simp) | exact Only.trans (Only.drewN (((O0.out.alloc _).alloc _).alloc _) _) o (by simp) | exact Only.trans (Only.drew (((O0.out.alloc _).alloc _).alloc _)) o (by simp))
  obtain ⟨B0c0, B0c1, B0l⟩ := B0x.facts2
  obtain ⟨B1c0, B1c1, B1l⟩ := B1x.facts2
  obtain ⟨B2c0, B2c1, B2l⟩ := B2x.facts2
  clear B0n B1n B2n O0 o
  have B0 := Lib.hid B0x; have B1 := Lib.hid B1x; have B2 := Lib.hid B2x; have O1 := Lib.hid O1x
  clear B0x B1x B2x O1x
  go_wp2_with (fail)
  refine (refr_nv _).mono ?_
  rintro e w2 ⟨rfl, o⟩
  have B0x := o.blk (t := 23) (cs := #[.int .i64 n, .int .i64 d]) (g := w.heap.size) (by first | exact B0.out | exact Blk.drewN B0.out _ | exact Blk.drew B0.out) (by simp)
  have B1x := o.blk (t := 23) (cs := #[.int .i64 1, .int .i64 0]) (g := w.heap.size + 1) (by first | exact B1.out | exact Blk.drewN B1.out _ | exact Blk.drew B1.out) (by simp)
  have B2x := o.blk (t := 23) (cs := #[.int .i64 0, .int .i64 0]) (g := w.heap.size + 2) (by first | exact B2.out | exact Blk.drewN B2.out _ | exact Blk.drew B2.out) (by simp)
  have O2x : Only [] w w2 := (by first | exact Only.trans O1.out o (by simp) | exact Only.trans (Only.drewN O1.out _) o (by simp) | exact Only.trans (Only.drew O1.out) o (by simp))
  obtain ⟨B0c0, B0c1, B0l⟩ := B0x.facts2
  obtain ⟨B1c0, B1c1, B1l⟩ := B1x.facts2
  obtain ⟨B2c0, B2c1, B2l⟩ := B2x.facts2
  clear B0 B1 B2 O1 o
  have B0 := Lib.hid B0x; have B1 := Lib.hid B1x; have B2 := Lib.hid B2x; have O2 := Lib.hid O2x
  clear B0x B1x B2x O2x
  go_wp2_with (fail)
  refine (refnever_fin fa _).mono ?_
  rintro e w3 ⟨rfl, o⟩
  have B0x := o.blk (t := 23) (cs := #[.int .i64 n, .int .i64 d]) (g := w.heap.size) (by first | exact B0.out | exact Blk.drewN B0.out _ | exact Blk.drew B0.out) (by simp)
  have B1x := o.blk (t := 23) (cs := #[.int .i64 1, .int .i64 0]) (g := w.heap.size + 1) (by first | exact B1.out | exact Blk.drewN B1.out _ | exact Blk.drew B1.out) (by simp)
  have B2x := o.blk (t := 23) (cs := #[.int .i64 0, .int .i64 0]) (g := w.heap.size + 2) (by first | exact B2.out | exact Blk.drewN B2.out _ | exact Blk.drew B2.out) (by simp)
  have O3x : Only [] w w3 := (by first | exact Only.trans O2.out o (by simp) | exact Only.trans (Only.drewN O2.out _) o (by simp) | exact Only.trans (Only.drew O2.out) o (by simp))
  obtain ⟨B0c0, B0c1, B0l⟩ := B0x.facts2
  obtain ⟨B1c0, B1c1, B1l⟩ := B1x.facts2
  obtain ⟨B2c0, B2c1, B2l⟩ := B2x.facts2
  clear B0 B1 B2 O2 o
  have B0 := Lib.hid B0x; have B1 := Lib.hid B1x; have B2 := Lib.hid B2x; have O3 := Lib.hid O3x
  clear B0x B1x B2x O3x
  go_wp2_with (fail)
  refine (refnever_t _).mono ?_
  rintro e w4 ⟨rfl, o⟩
  have B0x := o.blk (t := 23) (cs := #[.int .i64 n, .int .i64 d]) (g := w.heap.size) (by first | exact B0.out | exact Blk.drewN B0.out _ | exact Blk.drew B0.out) (by simp)
  have B1x := o.blk (t := 23) (cs := #[.int .i64 1, .int .i64 0]) (g := w.heap.size + 1) (by first | exact B1.out | exact Blk.drewN B1.out _ | exact Blk.drew B1.out) (by simp)
  have B2x := o.blk (t := 23) (cs := #[.int .i64 0, .int .i64 0]) (g := w.heap.size + 2) (by first | exact B2.out | exact Blk.drewN B2.out _ | exact Blk.drew B2.out) (by simp)
  have O4x : Only [] w w4 := (by first | exact Only.trans O3.out o (by simp) | exact Only.trans (Only.drewN O3.out _) o (by simp) | exact Only.trans (Only.drew O3.out) o (by simp))
  obtain ⟨B0c0, B0c1, B0l⟩ := B0x.facts2
  obtain ⟨B1c0, B1c1, B1l⟩ := B1x.facts2
  obtain ⟨B2c0, B2c1, B2l⟩ := B2x.facts2
  clear B0 B1 B2 O3 o
  have B0 := Lib.hid B0x; have B1 := Lib.hid B1x; have B2 := Lib.hid B2x; have O4 := Lib.hid O4x
  clear B0x B1x B2x O4x
  have fr0 := B2.out.frozen 0
  have fr1 := B2.out.frozen 1
  go_wp2_with (fail)
  exact bodyPost_ret (v := .tuple #[.agg #[.int .i64 1, .int .i64 0], .int .i64 0]) (by simp [results, Tryd.results38, go_sem, B2c0, B2c1]) rfl ⟨rfl, only_two O4.out (by simp; omega) (by simp; omega) _ _⟩

set_option maxHeartbeats 2000000 in
theorem refadd_ff {a b : Tm} {n d m k : Nat} (fa : Fin a n d) (fb : Fin b m k) {r1 r2 r3 : Int} (hr : redT (n * k + m * d) (d * k) = ((r1, r2), r3)) (w : World) :
    Calls Tryd.prog 38 #[.agg #[.int .i64 n, .int .i64 d], .agg #[.int .i64 m, .int .i64 k]] w fun e w' => e = .returned (.tuple #[.agg #[.int .i64 r1, .int .i64 r2], .int .i64 r3]) ∧ Only [] w w' := by
  obtain ⟨ln, ld, hn, hd⟩ := fa.len
  obtain ⟨lm, lk, hm, hk⟩ := fb.len
  have lnk := toD_mul_len hn hk
  have lmd := toD_mul_len hm hd
  have ldk := toD_mul_len hd hk
  have lx := toD_sum_len hn hk hm hd
  have pdk : 0 < d * k := Nat.mul_pos fa.pos fb.pos
  have HP := Lib.hid pdk
  clear pdk
  have HR := Lib.hid hr
  clear hr
  have O0 := Lib.hid (Only.refl [] w)
  go_enter Tryd.func38, Tryd.ntmps38
  go_wp2_with (fail)
  refine (refr_fin fa _).mono ?_
  rintro e w1 ⟨rfl, o⟩
  have B0n : Blk (w.alloc (.cells #[.int .i64 n, .int .i64 d] 23)) (w.heap.size) 23 #[.int .i64 n, .int .i64 d] := (by have h := Blk.new w 23 #[.int .i64 n, .int .i64 d]; simpa using h)
  have B1n : Blk ((w.alloc (.cells #[.int .i64 n, .int .i64 d] 23)).alloc (.cells #[.int .i64 m, .int .i64 k] 23)) (w.heap.size + 1) 23 #[.int .i64 m, .int .i64 k] := (by have h := Blk.new (w.alloc (.cells #[.int .i64 n, .int .i64 d] 23)) 23 #[.int .i64 m, .int .i64 k]; simpa using h)
  have B2n : Blk (((w.alloc (.cells #[.int .i64 n, .int .i64 d] 23)).alloc (.cells #[.int .i64 m, .int .i64 k] 23)).alloc (.cells #[.int .i64 0, .int .i64 0] 23)) (w.heap.size + 2) 23 #[.int .i64 0, .int .i64 0] := (by have h := Blk.new ((w.alloc (.cells #[.int .i64 n, .int .i64 d] 23)).alloc (.cells #[.int .i64 m, .int .i64 k] 23)) 23 #[.int .i64 0, .int .i64 0]; simpa using h)
  have B0x := o.blk (t := 23) (cs := #[.int .i64 n, .int .i64 d]) (g := w.heap.size) (by first | exact ((B0n.alloc _).alloc _) | exact Blk.drewN ((B0n.alloc _).alloc _) _ | exact Blk.drew ((B0n.alloc _).alloc _)) (by simp)
  have B1x := o.blk (t := 23) (cs := #[.int .i64 m, .int .i64 k]) (g := w.heap.size + 1) (by first | exact (B1n.alloc _) | exact Blk.drewN (B1n.alloc _) _ | exact Blk.drew (B1n.alloc _)) (by simp)
  have B2x := o.blk (t := 23) (cs := #[.int .i64 0, .int .i64 0]) (g := w.heap.size + 2) (by first | exact B2n | exact Blk.drewN B2n _ | exact Blk.drew B2n) (by simp)
  have O1x : Only [] w w1 := (by first | exact Only.trans (((O0.out.alloc _).alloc _).alloc _) o (by simp) | exact Only.trans (Only.drewN (((O0.out.alloc _).alloc _).alloc _) _) o (by simp) | exact Only.trans (Only.drew (((O0.out.alloc _).alloc _).alloc _)) o (by simp))
  obtain ⟨B0c0, B0c1, B0l⟩ := B0x.facts2
  obtain ⟨B1c0, B1c1, B1l⟩ := B1x.facts2
  obtain ⟨B2c0, B2c1, B2l⟩ := B2x.facts2
  clear B0n B1n B2n O0 o
  have B0 := Lib.hid B0x; have B1 := Lib.hid B1x; have B2 := Lib.hid B2x; have O1 := Lib.hid O1x
  clear B0x B1x B2x O1x
  go_wp2_with (fail)
  refine (refr_fin fb _).mono ?_
  rintro e w2 ⟨rfl, o⟩
  have B0x := o.blk (t := 23) (cs := #[.int .i64 n, .int .i64 d]) (g := w.heap.size) (by first | exact B0.out | exact Blk.drewN B0.out _ | exact Blk.drew B0.out) (by simp)
  have B1x := o.blk (t := 23) (cs := #[.int .i64 m, .int .i64 k]) (g := w.heap.size + 1) (by first | exact B1.out | exact Blk.drewN B1.out _ | exact Blk.drew B1.out) (by simp)
  have B2x := o.blk (t := 23) (cs := #[.int .i64 0, .int .i64 0]) (g := w.heap.size + 2) (by first | exact B2.out | exact Blk.drewN B2.out _ | exact Blk.drew B2.out) (by simp)
  have O2x : Only [] w w2 := (by first | exact Only.trans O1.out o (by simp) | exact Only.trans (Only.drewN O1.out _) o (by simp) | exact Only.trans (Only.drew O1.out) o (by simp))
  obtain ⟨B0c0, B0c1, B0l⟩ := B0x.facts2
  obtain ⟨B1c0, B1c1, B1l⟩ := B1x.facts2
  obtain ⟨B2c0, B2c1, B2l⟩ := B2x.facts2
  clear B0 B1 B2 O1 o
  have B0 := Lib.hid B0x; have B1 := Lib.hid B1x; have B2 := Lib.hid B2x; have O2 := Lib.hid O2x
  clear B0x B1x B2x O2x
  go_wp2_with (fail)
  refine (refnever_fin fa _).mono ?_
  rintro e w3 ⟨rfl, o⟩
  have B0x := o.blk (t := 23) (cs := #[.int .i64 n, .int .i64 d]) (g := w.heap.size) (by first | exact B0.out | exact Blk.drewN B0.out _ | exact Blk.drew B0.out) (by simp)
  have B1x := o.blk (t := 23) (cs := #[.int .i64 m, .int .i64 k]) (g := w.heap.size + 1) (by first | exact B1.out | exact Blk.drewN B1.out _ | exact Blk.drew B1.out) (by simp)
  have B2x := o.blk (t := 23) (cs := #[.int .i64 0, .int .i64 0]) (g := w.heap.size + 2) (by first | exact B2.out | exact Blk.drewN B2.out _ | exact Blk.drew B2.out) (by simp)
  have O3x : Only [] w w3 := (by first | exact Only.trans O2.out o (by simp) | exact Only.trans (Only.drewN O2.out _) o (by simp) | exact Only.trans (Only.drew O2.out) o (by simp))
  obtain ⟨B0c0, B0c1, B0l⟩ := B0x.facts2
  obtain ⟨B1c0, B1c1, B1l⟩ := B1x.facts2
  obtain ⟨B2c0, B2c1, B2l⟩ := B2x.facts2
  clear B0 B1 B2 O2 o
  have B0 := Lib.hid B0x; have B1 := Lib.hid B1x; have B2 := Lib.hid B2x; have O3 := Lib.hid O3x
  clear B0x B1x B2x O3x
  go_wp2_with (fail)
  refine (refnever_fin fb _).mono ?_
  rintro e w4 ⟨rfl, o⟩
  have B0x := o.blk (t := 23) (cs := #[.int .i64 n, .int .i64 d]) (g := w.heap.size) (by first | exact B0.out | exact Blk.drewN B0.out _ | exact Blk.drew B0.out) (by simp)
  have B1x := o.blk (t := 23) (cs := #[.int .i64 m, .int .i64 k]) (g := w.heap.size + 1) (by first | exact B1.out | exact Blk.drewN B1.out _ | exact Blk.drew B1.out) (by simp)
  have B2x := o.blk (t := 23) (cs := #[.int .i64 0, .int .i64 0]) (g := w.heap.size + 2) (by first | exact B2.out | exact Blk.drewN B2.out _ | exact Blk.drew B2.out) (by simp)
  have O4x : Only [] w w4 := (by first | exact Only.trans O3.out o (by simp) | exact Only.trans (Only.drewN O3.out _) o (by simp) | exact Only.trans (Only.drew O3.out) o (by simp))
  obtain ⟨B0c0, B0c1, B0l⟩ := B0x.facts2
  obtain ⟨B1c0, B1c1, B1l⟩ := B1x.facts2
  obtain ⟨B2c0, B2c1, B2l⟩ := B2x.facts2
  clear B0 B1 B2 O3 o
  have B0 := Lib.hid B0x; have B1 := Lib.hid B1x; have B2 := Lib.hid B2x; have O4 := Lib.hid O4x
  clear B0x B1x B2x O4x
  go_wp2_with (fail)
  refine wp_region_facts 15 [] (fr := ?fr) (tl := ?tl) (fun i v wv => match i with
    | 0 => v = .pointer (some ⟨w.heap.size, 0, none⟩)
    | 1 => v = .int .i64 n
    | 2 => Nm wv v n
    | 3 => v = .pointer (some ⟨w.heap.size + 1, 1, none⟩)
    | 4 => v = .int .i64 k
    | 5 => Nm wv v k
    | 6 => Nm wv v (n * k)
    | 7 => v = .pointer (some ⟨w.heap.size + 1, 0, none⟩)
    | 8 => v = .int .i64 m
    | 9 => Nm wv v m
    | 10 => v = .pointer (some ⟨w.heap.size, 1, none⟩)
    | 11 => v = .int .i64 d
    | 12 => Nm wv v d
    | 13 => Nm wv v (m * d)
    | 14 => Nm wv v (n * k + m * d)
    | _ => True) (by kernel_rfl) (by kernel_rfl) (by kernel_rfl) (by kernel_rfl) (by decide) ?htl ?hfr ?stab ?steps ?done
  case htl => simp only [List.drop_succ_cons, List.drop_zero]; rfl
  case hfr => intro vals; simp only [putAll, dstAt, Act.put, List.getElem?_toArray, List.getElem?_cons_zero, List.getElem?_cons_succ, Option.bind_some, List.setIfInBounds_toArray, List.set_cons_zero, List.set_cons_succ]; rfl
  case stab =>
    intro i v wa wb h
    try dsimp only
    split <;> first | exact id | (exact fun hf => Nm.only hf h)
  case steps =>
    refine ⟨?_, ?_, ?_, ?_, ?_, ?_, ?_, ?_, ?_, ?_, ?_, ?_, ?_, ?_, ?_, trivial⟩
    · intro vals wr hR hp K hK
      dsimp only at hK ⊢
      clear hp
      unfold RunsOp
      go_simp
      exact hK.out _ _ ⟨_, rfl, Only.refl _ _, rfl⟩
    · intro vals wr hR hp K hK
      dsimp only at hK ⊢
      obtain ⟨p0, -⟩ := hp
      replace p0 := p0 rfl
      dsimp only at p0
      rw [p0] at hK ⊢
      clear p0
      unfold RunsOp
      have tb := hR.blk (Blk.drew B0.out) (by simp)
      obtain ⟨c0, c1, cl⟩ := tb.facts2
      clear tb
      go_simp
      exact hK.out _ _ ⟨_, rfl, Only.refl _ _, rfl⟩
    · intro vals wr hR hp K hK
      dsimp only at hK ⊢
      obtain ⟨p1, -⟩ := hp
      replace p1 := p1 rfl
      dsimp only at p1
      rw [p1] at hK ⊢
      clear p1
      unfold RunsOp
      go_simp
      refine (from_any _ (by omega) _).mono ?_
      rintro e w2 ⟨v2, rfl, hv2, o2⟩
      exact hK.out _ _ ⟨_, rfl, o2, hv2⟩
    · intro vals wr hR hp K hK
      dsimp only at hK ⊢
      clear hp
      unfold RunsOp
      go_simp
      exact hK.out _ _ ⟨_, rfl, Only.refl _ _, rfl⟩
    · intro vals wr hR hp K hK
      dsimp only at hK ⊢
      obtain ⟨p3, -⟩ := hp
      replace p3 := p3 rfl
      dsimp only at p3
      rw [p3] at hK ⊢
      clear p3
      unfold RunsOp
      have tb := hR.blk (Blk.drew B1.out) (by simp)
      obtain ⟨c0, c1, cl⟩ := tb.facts2
      clear tb
      go_simp
      exact hK.out _ _ ⟨_, rfl, Only.refl _ _, rfl⟩
    · intro vals wr hR hp K hK
      dsimp only at hK ⊢
      obtain ⟨p4, -, -⟩ := hp
      replace p4 := p4 rfl
      dsimp only at p4
      rw [p4] at hK ⊢
      clear p4
      unfold RunsOp
      go_simp
      refine (from_any _ (by omega) _).mono ?_
      rintro e w2 ⟨v2, rfl, hv2, o2⟩
      exact hK.out _ _ ⟨_, rfl, o2, hv2⟩
    · intro vals wr hR hp K hK
      dsimp only at hK ⊢
      obtain ⟨p2, p5, -, -⟩ := hp
      replace p2 := p2 rfl
      replace p5 := p5 rfl
      dsimp only at p2 p5
      unfold RunsOp
      go_simp
      refine (muln_any p2 p5 (by omega) (by omega)).mono ?_
      rintro e w2 ⟨v2, rfl, hv2, o2⟩
      exact hK.out _ _ ⟨_, rfl, o2, hv2⟩
    · intro vals wr hR hp K hK
      dsimp only at hK ⊢
      clear hp
      unfold RunsOp
      go_simp
      exact hK.out _ _ ⟨_, rfl, Only.refl _ _, rfl⟩
    · intro vals wr hR hp K hK
      dsimp only at hK ⊢
      obtain ⟨p7, -⟩ := hp
      replace p7 := p7 rfl
      dsimp only at p7
      rw [p7] at hK ⊢
      clear p7
      unfold RunsOp
      have tb := hR.blk (Blk.drew B1.out) (by simp)
      obtain ⟨c0, c1, cl⟩ := tb.facts2
      clear tb
      go_simp
      exact hK.out _ _ ⟨_, rfl, Only.refl _ _, rfl⟩
    · intro vals wr hR hp K hK
      dsimp only at hK ⊢
      obtain ⟨p8, -, -⟩ := hp
      replace p8 := p8 rfl
      dsimp only at p8
      rw [p8] at hK ⊢
      clear p8
      unfold RunsOp
      go_simp
      refine (from_any _ (by omega) _).mono ?_
      rintro e w2 ⟨v2, rfl, hv2, o2⟩
      exact hK.out _ _ ⟨_, rfl, o2, hv2⟩
    · intro vals wr hR hp K hK
      dsimp only at hK ⊢
      clear hp
      unfold RunsOp
      go_simp
      exact hK.out _ _ ⟨_, rfl, Only.refl _ _, rfl⟩
    · intro vals wr hR hp K hK
      dsimp only at hK ⊢
      obtain ⟨p10, -⟩ := hp
      replace p10 := p10 rfl
      dsimp only at p10
      rw [p10] at hK ⊢
      clear p10
      unfold RunsOp
      have tb := hR.blk (Blk.drew B0.out) (by simp)
      obtain ⟨c0, c1, cl⟩ := tb.facts2
      clear tb
      go_simp
      exact hK.out _ _ ⟨_, rfl, Only.refl _ _, rfl⟩
    · intro vals wr hR hp K hK
      dsimp only at hK ⊢
      obtain ⟨p11, -, -⟩ := hp
      replace p11 := p11 rfl
      dsimp only at p11
      rw [p11] at hK ⊢
      clear p11
      unfold RunsOp
      go_simp
      refine (from_any _ (by omega) _).mono ?_
      rintro e w2 ⟨v2, rfl, hv2, o2⟩
      exact hK.out _ _ ⟨_, rfl, o2, hv2⟩
    · intro vals wr hR hp K hK
      dsimp only at hK ⊢
      obtain ⟨p9, p12, -, -⟩ := hp
      replace p9 := p9 rfl
      replace p12 := p12 rfl
      dsimp only at p9 p12
      unfold RunsOp
      go_simp
      refine (muln_any p9 p12 (by omega) (by omega)).mono ?_
      rintro e w2 ⟨v2, rfl, hv2, o2⟩
      exact hK.out _ _ ⟨_, rfl, o2, hv2⟩
    · intro vals wr hR hp K hK
      dsimp only at hK ⊢
      obtain ⟨p6, p13, -, -⟩ := hp
      replace p6 := p6 rfl
      replace p13 := p13 rfl
      dsimp only at p6 p13
      unfold RunsOp
      go_simp
      refine (addn_any p6 p13 (by omega) (by omega)).mono ?_
      rintro e w2 ⟨v2, rfl, hv2, o2⟩
      exact hK.out _ _ ⟨_, rfl, o2, hv2⟩
  case done =>
    intro vals wd hR hF
    have f14 : Nm wd (vals 14) (n * k + m * d) := hF 14 (by decide)
    generalize vals 14 = x1 at f14 ⊢
    have O5 := Lib.hid (Only.trans (O4.out.drew) hR (by simp))
    have C0 := Lib.hid (hR.blk (Blk.drew B0.out) (by simp))
    have C1 := Lib.hid (hR.blk (Blk.drew B1.out) (by simp))
    have C2 := Lib.hid (hR.blk (Blk.drew B2.out) (by simp))
    have X1 := Lib.hid f14
    clear hF f14 hR B0 B1 B2 B0c0 B0c1 B0l B1c0 B1c1 B1l B2c0 B2c1 B2l O4
    go_wp2_with (fail)
    refine wp_region_facts 11 [] (fr := ?frb) (tl := ?tlb) (fun i v wv => match i with
      | 0 => v = x1
      | 1 => v = .pointer (some ⟨w.heap.size, 1, none⟩)
      | 2 => v = .int .i64 d
      | 3 => Nm wv v d
      | 4 => v = .pointer (some ⟨w.heap.size + 1, 1, none⟩)
      | 5 => v = .int .i64 k
      | 6 => Nm wv v k
      | 7 => Nm wv v (d * k)
      | 8 => v = .tuple #[.agg #[.int .i64 r1, .int .i64 r2], .int .i64 r3]
      | 9 => v = .agg #[.int .i64 r1, .int .i64 r2]
      | 10 => v = .int .i64 r3
      | _ => True) (by kernel_rfl) (by kernel_rfl) (by kernel_rfl) (by kernel_rfl) (by decide) ?htlb ?hfrb ?stabb ?stepsb ?doneb
    case htlb => simp only [List.drop_succ_cons, List.drop_zero]; rfl
    case hfrb => intro vals; simp only [putAll, dstAt, Act.put, List.getElem?_toArray, List.getElem?_cons_zero, List.getElem?_cons_succ, Option.bind_some, List.setIfInBounds_toArray, List.set_cons_zero, List.set_cons_succ]; rfl
    case stabb =>
      intro i v wa wb h
      try dsimp only
      split <;> first | exact id | (exact fun hf => Nm.only hf h)
    case stepsb =>
      refine ⟨?_, ?_, ?_, ?_, ?_, ?_, ?_, ?_, ?_, ?_, ?_, trivial⟩
      · intro vals wr hR hp K hK
        dsimp only at hK ⊢
        clear hp
        unfold RunsOp
        go_simp
        exact hK.out _ _ ⟨_, rfl, Only.refl _ _, rfl⟩
      · intro vals wr hR hp K hK
        dsimp only at hK ⊢
        clear hp
        unfold RunsOp
        go_simp
        exact hK.out _ _ ⟨_, rfl, Only.refl _ _, rfl⟩
      · intro vals wr hR hp K hK
        dsimp only at hK ⊢
        obtain ⟨p1, -⟩ := hp
        replace p1 := p1 rfl
        dsimp only at p1
        rw [p1] at hK ⊢
        clear p1
        unfold RunsOp
        have tb := hR.blk (Blk.drew C0.out) (by simp)
        obtain ⟨c0, c1, cl⟩ := tb.facts2
        clear tb
        go_simp
        exact hK.out _ _ ⟨_, rfl, Only.refl _ _, rfl⟩
      · intro vals wr hR hp K hK
        dsimp only at hK ⊢
        obtain ⟨p2, -⟩ := hp
        replace p2 := p2 rfl
        dsimp only at p2
        rw [p2] at hK ⊢
        clear p2
        unfold RunsOp
        go_simp
        refine (from_any _ (by omega) _).mono ?_
        rintro e w2 ⟨v2, rfl, hv2, o2⟩
        exact hK.out _ _ ⟨_, rfl, o2, hv2⟩
      · intro vals wr hR hp K hK
        dsimp only at hK ⊢
        clear hp
        unfold RunsOp
        go_simp
        exact hK.out _ _ ⟨_, rfl, Only.refl _ _, rfl⟩
      · intro vals wr hR hp K hK
        dsimp only at hK ⊢
        obtain ⟨p4, -⟩ := hp
        replace p4 := p4 rfl
        dsimp only at p4
        rw [p4] at hK ⊢
        clear p4
        unfold RunsOp
        have tb := hR.blk (Blk.drew C1.out) (by simp)
        obtain ⟨c0, c1, cl⟩ := tb.facts2
        clear tb
        go_simp
        exact hK.out _ _ ⟨_, rfl, Only.refl _ _, rfl⟩
      · intro vals wr hR hp K hK
        dsimp only at hK ⊢
        obtain ⟨p5, -, -⟩ := hp
        replace p5 := p5 rfl
        dsimp only at p5
        rw [p5] at hK ⊢
        clear p5
        unfold RunsOp
        go_simp
        refine (from_any _ (by omega) _).mono ?_
        rintro e w2 ⟨v2, rfl, hv2, o2⟩
        exact hK.out _ _ ⟨_, rfl, o2, hv2⟩
      · intro vals wr hR hp K hK
        dsimp only at hK ⊢
        obtain ⟨p3, p6, -, -⟩ := hp
        replace p3 := p3 rfl
        replace p6 := p6 rfl
        dsimp only at p3 p6
        unfold RunsOp
        go_simp
        refine (muln_any p3 p6 (by omega) (by omega)).mono ?_
        rintro e w2 ⟨v2, rfl, hv2, o2⟩
        exact hK.out _ _ ⟨_, rfl, o2, hv2⟩
      · intro vals wr hR hp K hK
        dsimp only at hK ⊢
        obtain ⟨p0, p7, -, -⟩ := hp
        replace p0 := p0 rfl
        replace p7 := p7 rfl
        dsimp only at p0 p7
        rw [p0] at hK ⊢
        clear p0
        unfold RunsOp
        have xx := X1.out.only (Only.trans (Only.drew (Only.refl [] wd)) hR (by simp))
        go_simp
        refine (made_any xx p7 (by omega) (by omega) HP.out).mono ?_
        rintro e w2 ⟨rfl, o2⟩
        rw [HR.out]
        exact hK.out _ _ ⟨_, rfl, o2, rfl⟩
      · intro vals wr hR hp K hK
        dsimp only at hK ⊢
        obtain ⟨p8, -⟩ := hp
        replace p8 := p8 rfl
        dsimp only at p8
        obtain p8 := p8
        rw [p8] at hK ⊢
        clear p8
        unfold RunsOp
        go_simp
        exact hK.out _ _ ⟨_, rfl, Only.refl _ _, rfl⟩
      · intro vals wr hR hp K hK
        dsimp only at hK ⊢
        obtain ⟨p8, -⟩ := hp
        replace p8 := p8 rfl
        dsimp only at p8
        obtain p8 := p8
        rw [p8] at hK ⊢
        clear p8
        unfold RunsOp
        go_simp
        exact hK.out _ _ ⟨_, rfl, Only.refl _ _, rfl⟩
    case doneb =>
      intro vals we hR hF
      have f9 : vals 9 = .agg #[.int .i64 r1, .int .i64 r2] := hF 9 (by decide)
      have f10 : vals 10 = .int .i64 r3 := hF 10 (by decide)
      rw [f9, f10]
      have O9 := Lib.hid (Only.trans (O5.out.drew) hR (by simp))
      have t2 := hR.blk (Blk.drew C2.out) (by simp)
      obtain ⟨c0, c1, cl⟩ := t2.facts2
      have fr0 := t2.frozen 0
      have fr1 := t2.frozen 1
      clear hF f9 f10 hR t2 X1 C0 C1 C2
      go_wp2_with (fail)
      exact bodyPost_ret (v := .tuple #[.agg #[.int .i64 r1, .int .i64 r2], .int .i64 r3]) (by simp [results, Tryd.results38, go_sem, c0, c1]) rfl ⟨rfl, only_two O9.out (by simp; omega) (by simp; omega) _ _⟩

theorem subw {a b : Tm} (h : ¬ (a.right = true ∧ b.right = true)) : subT a b = ((0, 0), 1) := by unfold subT; rw [if_neg h]
theorem subnr {a : Tm} (h : a.right = true) : subT a (1, 0) = ((0, 0), 4) := by unfold subT; rw [if_pos ⟨h, right_never⟩, if_pos (.inl rfl)]
theorem sublt {a b : Tm} (ha : a.right = true) (hb : b.right = true) (h : cmpT a b < 0) : subT a b = ((0, 0), 4) := by unfold subT; rw [if_pos ⟨ha, hb⟩, if_pos (.inr h)]
theorem subnl {b : Tm} {m k : Nat} (fb : Fin b m k) : subT (1, 0) b = ((1, 0), 0) := by
  unfold subT
  rw [if_pos ⟨right_never, fb.right⟩, if_neg (by rintro (h | h); exact fb.ne h; rw [cmp_never_l fb] at h; omega), if_pos rfl]
theorem subfin {a b : Tm} {n d m k : Nat} (fa : Fin a n d) (fb : Fin b m k) (h : ¬ cmpT a b < 0) : subT a b = redT (n * k - m * d) (d * k) := by
  unfold subT
  rw [if_pos ⟨fa.right, fb.right⟩, if_neg (by rintro (h1 | h1); exact fb.ne h1; exact h h1), if_neg fa.ne, fa.eq, fb.eq]
  rfl

theorem refadd_any (a b : Tm) (ha : a.ok) (hb : b.ok) (w : World) :
    Calls Tryd.prog 38 #[.agg #[.int .i64 a.1, .int .i64 a.2], .agg #[.int .i64 b.1, .int .i64 b.2]] w fun e w' => e = .returned (.tuple #[.agg #[.int .i64 (addT a b).1.1, .int .i64 (addT a b).1.2], .int .i64 (addT a b).2]) ∧ Only [] w w' := by
  by_cases ra : a.right = true
  · by_cases rb : b.right = true
    · rcases right_cases ha ra with rfl | ⟨n, d, fa⟩
      · rw [add_never_l rfl rb]
        exact refadd_nl b hb rb w
      · rcases right_cases hb rb with rfl | ⟨m, k, fb⟩
        · rw [add_never_r ra rfl]
          have := refadd_nr fa w
          rw [fa.eq]; exact this
        · rw [add_fin fa fb]
          obtain ⟨⟨⟨r1, r2⟩, r3⟩, hr⟩ : ∃ x, redT (n * k + m * d) (d * k) = x := ⟨_, rfl⟩
          have := refadd_ff fa fb hr w
          rw [hr, fa.eq, fb.eq]; exact this
    · rw [add_wrong (fun h => rb h.2)]
      exact refadd_w2 a b ha hb ra (by simpa using rb) w
  · rw [add_wrong (fun h => ra h.1)]
    exact refadd_w1 a b ha (by simpa using ra) w

end Go.Proofs.YtoefekgfklillaaDoor
