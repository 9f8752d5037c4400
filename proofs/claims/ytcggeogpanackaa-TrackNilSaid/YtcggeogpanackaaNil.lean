/- TrackNil: the law's own walk. -/
import Derived.Test.YtcggeogpanackaaToldN
namespace Go.Proofs.Ytcggeogpanackaa
open Go.RowKit Go.Kx
set_option maxRecDepth 20000

theorem len_nil' (w : World) : Calls Try.prog 20 #[.pointer none] w fun e w' => e = .returned (.int .i64 0) ∧ Only [] w w' :=
  (len_nil w).mono fun e w' ⟨he, hw⟩ => ⟨he, by rw [hw]; exact Only.refl _ _⟩
theorem tracknil_any (s : St) (x : Int) (w : World) : Calls Try.prog 7 #[.agg #[.int .i64 s.1.1, .int .i64 s.1.2, .int .i64 s.2], .int .i64 x] w fun e w' => e = .returned (.bool true) ∧ Only [] w w' := by
  have O0 := Lib.hid (Only.refl [] w)
  have hE : ∀ W, (binOp .eql 34 (.agg #[.int .i64 0, .int .i64 0, .int .i64 0]) (.agg #[.int .i64 0, .int .i64 0, .int .i64 0])).run Try.prog W = .ok (.bool true) W := fun W => by rw [eq_st34]; rfl
  go_enter Try.func7, Try.ntmps7
  go_wp2_with (fail)
  refine (of_any s _).mono ?_
  rintro e w1 ⟨rfl, o⟩
  have B0n : Blk (w.alloc (.cells #[.int .i64 s.1.1, .int .i64 s.1.2, .int .i64 s.2] 26)) (w.heap.size) 26 #[.int .i64 s.1.1, .int .i64 s.1.2, .int .i64 s.2] := (by have h := Blk.new w 26 #[.int .i64 s.1.1, .int .i64 s.1.2, .int .i64 s.2]; simpa using h)
  have B0x := o.blk (t := 26) (cs := #[.int .i64 s.1.1, .int .i64 s.1.2, .int .i64 s.2]) (g := w.heap.size) (by first | exact B0n | exact Blk.drewN B0n _ | exact Blk.drew B0n) (by simp)
  have O1x : Only [] w w1 := (by first | exact Only.trans (O0.out.alloc _) o (by simp) | exact Only.trans (Only.drewN (O0.out.alloc _) _) o (by simp) | exact Only.trans (Only.drew (O0.out.alloc _)) o (by simp))
  obtain ⟨B0c0, B0c1, B0c2, B0l⟩ := B0x.facts3
  clear B0n O0 o
  have B0 := Lib.hid B0x; have O1 := Lib.hid O1x
  clear B0x O1x
  go_wp2_with (fail)
  refine (at_nil (s := s) _).mono ?_
  rintro e w2 ⟨rfl, o⟩
  have B0x := o.blk (t := 26) (cs := #[.int .i64 s.1.1, .int .i64 s.1.2, .int .i64 s.2]) (g := w.heap.size) (by first | exact B0.out | exact Blk.drewN B0.out _ | exact Blk.drew B0.out) (by simp)
  have O2x : Only [] w w2 := (by first | exact Only.trans O1.out o (by simp) | exact Only.trans (Only.drewN O1.out _) o (by simp) | exact Only.trans (Only.drew O1.out) o (by simp))
  obtain ⟨B0c0, B0c1, B0c2, B0l⟩ := B0x.facts3
  clear B0 O1 o
  have B0 := Lib.hid B0x; have O2 := Lib.hid O2x
  clear B0x O2x
  go_wp2_with (fail)
  refine (awake_any _).mono ?_
  rintro e w3 ⟨rfl, o⟩
  have B1n : Blk (w2.alloc (.cells #[.int .i64 0, .int .i64 0, .int .i64 0] 34)) (w2.heap.size) 34 #[.int .i64 0, .int .i64 0, .int .i64 0] := (by have h := Blk.new w2 34 #[.int .i64 0, .int .i64 0, .int .i64 0]; simpa using h)
  have B0x := o.blk (t := 26) (cs := #[.int .i64 s.1.1, .int .i64 s.1.2, .int .i64 s.2]) (g := w.heap.size) (by first | exact (B0.out.alloc _) | exact Blk.drewN (B0.out.alloc _) _ | exact Blk.drew (B0.out.alloc _)) (by simp)
  have B1x := o.blk (t := 34) (cs := #[.int .i64 0, .int .i64 0, .int .i64 0]) (g := w2.heap.size) (by first | exact B1n | exact Blk.drewN B1n _ | exact Blk.drew B1n) (by simp)
  have O3x : Only [] w w3 := (by first | exact Only.trans (O2.out.alloc _) o (by simp) | exact Only.trans (Only.drewN (O2.out.alloc _) _) o (by simp) | exact Only.trans (Only.drew (O2.out.alloc _)) o (by simp))
  obtain ⟨B0c0, B0c1, B0c2, B0l⟩ := B0x.facts3
  obtain ⟨B1c0, B1c1, B1c2, B1l⟩ := B1x.facts3
  clear B0 B1n O2 o
  have B0 := Lib.hid B0x; have B1 := Lib.hid B1x; have O3 := Lib.hid O3x
  clear B0x B1x O3x
  go_wp2_with (fail)
  refine (of_any s _).mono ?_
  rintro e w4 ⟨rfl, o⟩
  have B0x := o.blk (t := 26) (cs := #[.int .i64 s.1.1, .int .i64 s.1.2, .int .i64 s.2]) (g := w.heap.size) (by first | exact B0.out | exact Blk.drewN B0.out _ | exact Blk.drew B0.out) (by simp)
  have B1x := o.blk (t := 34) (cs := #[.int .i64 0, .int .i64 0, .int .i64 0]) (g := w2.heap.size) (by first | exact B1.out | exact Blk.drewN B1.out _ | exact Blk.drew B1.out) (by simp)
  have O4x : Only [] w w4 := (by first | exact Only.trans O3.out o (by simp) | exact Only.trans (Only.drewN O3.out _) o (by simp) | exact Only.trans (Only.drew O3.out) o (by simp))
  obtain ⟨B0c0, B0c1, B0c2, B0l⟩ := B0x.facts3
  obtain ⟨B1c0, B1c1, B1c2, B1l⟩ := B1x.facts3
  clear B0 B1 O3 o
  have B0 := Lib.hid B0x; have B1 := Lib.hid B1x; have O4 := Lib.hid O4x
  clear B0x B1x O4x
  go_wp2_with (fail)
  refine (put_nil (s := s) (x := x) _).mono ?_
  rintro e w5 ⟨rfl, o⟩
  have B0x := o.blk (t := 26) (cs := #[.int .i64 s.1.1, .int .i64 s.1.2, .int .i64 s.2]) (g := w.heap.size) (by first | exact B0.out | exact Blk.drewN B0.out _ | exact Blk.drew B0.out) (by simp)
  have B1x := o.blk (t := 34) (cs := #[.int .i64 0, .int .i64 0, .int .i64 0]) (g := w2.heap.size) (by first | exact B1.out | exact Blk.drewN B1.out _ | exact Blk.drew B1.out) (by simp)
  have O5x : Only [] w w5 := (by first | exact Only.trans O4.out o (by simp) | exact Only.trans (Only.drewN O4.out _) o (by simp) | exact Only.trans (Only.drew O4.out) o (by simp))
  obtain ⟨B0c0, B0c1, B0c2, B0l⟩ := B0x.facts3
  obtain ⟨B1c0, B1c1, B1c2, B1l⟩ := B1x.facts3
  clear B0 B1 O4 o
  have B0 := Lib.hid B0x; have B1 := Lib.hid B1x; have O5 := Lib.hid O5x
  clear B0x B1x O5x
  go_wp2_with (fail)
  refine (of_any s _).mono ?_
  rintro e w6 ⟨rfl, o⟩
  have B0x := o.blk (t := 26) (cs := #[.int .i64 s.1.1, .int .i64 s.1.2, .int .i64 s.2]) (g := w.heap.size) (by first | exact B0.out | exact Blk.drewN B0.out _ | exact Blk.drew B0.out) (by simp)
  have B1x := o.blk (t := 34) (cs := #[.int .i64 0, .int .i64 0, .int .i64 0]) (g := w2.heap.size) (by first | exact B1.out | exact Blk.drewN B1.out _ | exact Blk.drew B1.out) (by simp)
  have O6x : Only [] w w6 := (by first | exact Only.trans O5.out o (by simp) | exact Only.trans (Only.drewN O5.out _) o (by simp) | exact Only.trans (Only.drew O5.out) o (by simp))
  obtain ⟨B0c0, B0c1, B0c2, B0l⟩ := B0x.facts3
  obtain ⟨B1c0, B1c1, B1c2, B1l⟩ := B1x.facts3
  clear B0 B1 O5 o
  have B0 := Lib.hid B0x; have B1 := Lib.hid B1x; have O6 := Lib.hid O6x
  clear B0x B1x O6x
  go_wp2_with (fail)
  refine (set_nil s x _).mono ?_
  rintro e w7 ⟨rfl, o⟩
  have B0x := o.blk (t := 26) (cs := #[.int .i64 s.1.1, .int .i64 s.1.2, .int .i64 s.2]) (g := w.heap.size) (by first | exact B0.out | exact Blk.drewN B0.out _ | exact Blk.drew B0.out) (by simp)
  have B1x := o.blk (t := 34) (cs := #[.int .i64 0, .int .i64 0, .int .i64 0]) (g := w2.heap.size) (by first | exact B1.out | exact Blk.drewN B1.out _ | exact Blk.drew B1.out) (by simp)
  have O7x : Only [] w w7 := (by first | exact Only.trans O6.out o (by simp) | exact Only.trans (Only.drewN O6.out _) o (by simp) | exact Only.trans (Only.drew O6.out) o (by simp))
  obtain ⟨B0c0, B0c1, B0c2, B0l⟩ := B0x.facts3
  obtain ⟨B1c0, B1c1, B1c2, B1l⟩ := B1x.facts3
  clear B0 B1 O6 o
  have B0 := Lib.hid B0x; have B1 := Lib.hid B1x; have O7 := Lib.hid O7x
  clear B0x B1x O7x
  go_wp2_with (fail)
  refine (of_any s _).mono ?_
  rintro e w8 ⟨rfl, o⟩
  have B0x := o.blk (t := 26) (cs := #[.int .i64 s.1.1, .int .i64 s.1.2, .int .i64 s.2]) (g := w.heap.size) (by first | exact B0.out | exact Blk.drewN B0.out _ | exact Blk.drew B0.out) (by simp)
  have B1x := o.blk (t := 34) (cs := #[.int .i64 0, .int .i64 0, .int .i64 0]) (g := w2.heap.size) (by first | exact B1.out | exact Blk.drewN B1.out _ | exact Blk.drew B1.out) (by simp)
  have O8x : Only [] w w8 := (by first | exact Only.trans O7.out o (by simp) | exact Only.trans (Only.drewN O7.out _) o (by simp) | exact Only.trans (Only.drew O7.out) o (by simp))
  obtain ⟨B0c0, B0c1, B0c2, B0l⟩ := B0x.facts3
  obtain ⟨B1c0, B1c1, B1c2, B1l⟩ := B1x.facts3
  clear B0 B1 O7 o
  have B0 := Lib.hid B0x; have B1 := Lib.hid B1x; have O8 := Lib.hid O8x
  clear B0x B1x O8x
  go_wp2_with (fail)
  refine (back_nil s _).mono ?_
  rintro e w9 ⟨rfl, o⟩
  have B0x := o.blk (t := 26) (cs := #[.int .i64 s.1.1, .int .i64 s.1.2, .int .i64 s.2]) (g := w.heap.size) (by first | exact B0.out | exact Blk.drewN B0.out _ | exact Blk.drew B0.out) (by simp)
  have B1x := o.blk (t := 34) (cs := #[.int .i64 0, .int .i64 0, .int .i64 0]) (g := w2.heap.size) (by first | exact B1.out | exact Blk.drewN B1.out _ | exact Blk.drew B1.out) (by simp)
  have O9x : Only [] w w9 := (by first | exact Only.trans O8.out o (by simp) | exact Only.trans (Only.drewN O8.out _) o (by simp) | exact Only.trans (Only.drew O8.out) o (by simp))
  obtain ⟨B0c0, B0c1, B0c2, B0l⟩ := B0x.facts3
  obtain ⟨B1c0, B1c1, B1c2, B1l⟩ := B1x.facts3
  clear B0 B1 O8 o
  have B0 := Lib.hid B0x; have B1 := Lib.hid B1x; have O9 := Lib.hid O9x
  clear B0x B1x O9x
  go_wp2_with (fail)
  refine (of_any s _).mono ?_
  rintro e w10 ⟨rfl, o⟩
  have B0x := o.blk (t := 26) (cs := #[.int .i64 s.1.1, .int .i64 s.1.2, .int .i64 s.2]) (g := w.heap.size) (by first | exact B0.out | exact Blk.drewN B0.out _ | exact Blk.drew B0.out) (by simp)
  have B1x := o.blk (t := 34) (cs := #[.int .i64 0, .int .i64 0, .int .i64 0]) (g := w2.heap.size) (by first | exact B1.out | exact Blk.drewN B1.out _ | exact Blk.drew B1.out) (by simp)
  have O10x : Only [] w w10 := (by first | exact Only.trans O9.out o (by simp) | exact Only.trans (Only.drewN O9.out _) o (by simp) | exact Only.trans (Only.drew O9.out) o (by simp))
  obtain ⟨B0c0, B0c1, B0c2, B0l⟩ := B0x.facts3
  obtain ⟨B1c0, B1c1, B1c2, B1l⟩ := B1x.facts3
  clear B0 B1 O9 o
  have B0 := Lib.hid B0x; have B1 := Lib.hid B1x; have O10 := Lib.hid O10x
  clear B0x B1x O10x
  go_wp2_with (fail)
  refine (free_nil s _).mono ?_
  rintro e w11 ⟨rfl, o⟩
  have B0x := o.blk (t := 26) (cs := #[.int .i64 s.1.1, .int .i64 s.1.2, .int .i64 s.2]) (g := w.heap.size) (by first | exact B0.out | exact Blk.drewN B0.out _ | exact Blk.drew B0.out) (by simp)
  have B1x := o.blk (t := 34) (cs := #[.int .i64 0, .int .i64 0, .int .i64 0]) (g := w2.heap.size) (by first | exact B1.out | exact Blk.drewN B1.out _ | exact Blk.drew B1.out) (by simp)
  have O11x : Only [] w w11 := (by first | exact Only.trans O10.out o (by simp) | exact Only.trans (Only.drewN O10.out _) o (by simp) | exact Only.trans (Only.drew O10.out) o (by simp))
  obtain ⟨B0c0, B0c1, B0c2, B0l⟩ := B0x.facts3
  obtain ⟨B1c0, B1c1, B1c2, B1l⟩ := B1x.facts3
  clear B0 B1 O10 o
  have B0 := Lib.hid B0x; have B1 := Lib.hid B1x; have O11 := Lib.hid O11x
  clear B0x B1x O11x
  go_wp2_with (fail)
  refine (len_nil' _).mono ?_
  rintro e w12 ⟨rfl, o⟩
  have B0x := o.blk (t := 26) (cs := #[.int .i64 s.1.1, .int .i64 s.1.2, .int .i64 s.2]) (g := w.heap.size) (by first | exact B0.out | exact Blk.drewN B0.out _ | exact Blk.drew B0.out) (by simp)
  have B1x := o.blk (t := 34) (cs := #[.int .i64 0, .int .i64 0, .int .i64 0]) (g := w2.heap.size) (by first | exact B1.out | exact Blk.drewN B1.out _ | exact Blk.drew B1.out) (by simp)
  have O12x : Only [] w w12 := (by first | exact Only.trans O11.out o (by simp) | exact Only.trans (Only.drewN O11.out _) o (by simp) | exact Only.trans (Only.drew O11.out) o (by simp))
  obtain ⟨B0c0, B0c1, B0c2, B0l⟩ := B0x.facts3
  obtain ⟨B1c0, B1c1, B1c2, B1l⟩ := B1x.facts3
  clear B0 B1 O11 o
  have B0 := Lib.hid B0x; have B1 := Lib.hid B1x; have O12 := Lib.hid O12x
  clear B0x B1x O12x
  go_wp2_with (fail)
  refine (told_nil _).mono ?_
  rintro e w13 ⟨rfl, o⟩
  have B0x := o.blk (t := 26) (cs := #[.int .i64 s.1.1, .int .i64 s.1.2, .int .i64 s.2]) (g := w.heap.size) (by first | exact B0.out | exact Blk.drewN B0.out _ | exact Blk.drew B0.out) (by simp)
  have B1x := o.blk (t := 34) (cs := #[.int .i64 0, .int .i64 0, .int .i64 0]) (g := w2.heap.size) (by first | exact B1.out | exact Blk.drewN B1.out _ | exact Blk.drew B1.out) (by simp)
  have O13x : Only [] w w13 := (by first | exact Only.trans O12.out o (by simp) | exact Only.trans (Only.drewN O12.out _) o (by simp) | exact Only.trans (Only.drew O12.out) o (by simp))
  obtain ⟨B0c0, B0c1, B0c2, B0l⟩ := B0x.facts3
  obtain ⟨B1c0, B1c1, B1c2, B1l⟩ := B1x.facts3
  clear B0 B1 O12 o
  have B0 := Lib.hid B0x; have B1 := Lib.hid B1x; have O13 := Lib.hid O13x
  clear B0x B1x O13x
  go_wp2_with (fail)
  go_ret
  exact ⟨rfl, O13.out⟩
end Go.Proofs.Ytcggeogpanackaa
