/- Stamps: after, the reference's; texts. -/
import Derived.Test.YtoefekgfklillaaDoorSt3
namespace Go.Proofs.YtoefekgfklillaaDoor
open Go.RowKit Go.Kx
set_option maxRecDepth 20000

theorem stR_fin {s : St} (h : stR s = true) (hn : s ≠ ((1, 0), 0)) : s.1.2 ≠ 0 := by
  intro h0
  have h1 := right_end (stR_right h) h0
  unfold stR at h
  rw [h1] at h
  simp at h
  exact hn (Prod.ext h1 h.2)

set_option maxHeartbeats 1000000 in
theorem refafter_w1 (s : St) (t : Tm) (ho : s.ok) (hr : stR s = false) (w : World) :
    Calls Tryd.prog 18 #[.agg #[.int .i64 s.1.1, .int .i64 s.1.2, .int .i64 s.2], .agg #[.int .i64 t.1, .int .i64 t.2]] w fun e w' => e = .returned (.tuple #[.agg #[.int .i64 0, .int .i64 0, .int .i64 0], .int .i64 1]) ∧ Only [] w w' := by
  have HR := Lib.hid hr
  clear hr
  have O0 := Lib.hid (Only.refl [] w)
  go_enter Tryd.func18, Tryd.ntmps18
  go_wp2_with (fail)
  refine (refstr ho HR.out _).mono ?_
  rintro e w1 ⟨rfl, o⟩
  have B0n : Blk (w.alloc (.cells #[.int .i64 s.1.1, .int .i64 s.1.2, .int .i64 s.2] 25)) (w.heap.size) 25 #[.int .i64 s.1.1, .int .i64 s.1.2, .int .i64 s.2] := (by have h := Blk.new w 25 #[.int .i64 s.1.1, .int .i64 s.1.2, .int .i64 s.2]; simpa using h)
  have B1n : Blk ((w.alloc (.cells #[.int .i64 s.1.1, .int .i64 s.1.2, .int .i64 s.2] 25)).alloc (.cells #[.int .i64 t.1, .int .i64 t.2] 23)) (w.heap.size + 1) 23 #[.int .i64 t.1, .int .i64 t.2] := (by have h := Blk.new (w.alloc (.cells #[.int .i64 s.1.1, .int .i64 s.1.2, .int .i64 s.2] 25)) 23 #[.int .i64 t.1, .int .i64 t.2]; simpa using h)
  have B2n : Blk (((w.alloc (.cells #[.int .i64 s.1.1, .int .i64 s.1.2, .int .i64 s.2] 25)).alloc (.cells #[.int .i64 t.1, .int .i64 t.2] 23)).alloc (.cells #[.int .i64 0, .int .i64 0, .int .i64 0] 25)) (w.heap.size + 2) 25 #[.int .i64 0, .int .i64 0, .int .i64 0] := (by have h := Blk.new ((w.alloc (.cells #[.int .i64 s.1.1, .int .i64 s.1.2, .int .i64 s.2] 25)).alloc (.cells #[.int .i64 t.1, .int .i64 t.2] 23)) 25 #[.int .i64 0, .int .i64 0, .int .i64 0]; simpa using h)
  have B0x := o.blk (t := 25) (cs := #[.int .i64 s.1.1, .int .i64 s.1.2, .int .i64 s.2]) (g := w.heap.size) (by first | exact ((B0n.alloc _).alloc _) | exact Blk.drewN ((B0n.alloc _).alloc _) _ | exact Blk.drew ((B0n.alloc _).alloc _)) (by simp)
  have B1x := o.blk (t := 23) (cs := #[.int .i64 t.1, .int .i64 t.2]) (g := w.heap.size + 1) (by first | exact (B1n.alloc _) | exact Blk.drewN (B1n.alloc _) _ | exact Blk.drew (B1n.alloc _)) (by simp)
  have B2x := o.blk (t := 25) (cs := #[.int .i64 0, .int .i64 0, .int .i64 0]) (g := w.heap.size + 2) (by first | exact B2n | exact Blk.drewN B2n _ | exact Blk.drew B2n) (by simp)
  have O1x : Only [] w w1 := (by first | exact Only.trans (((O0.out.alloc _).alloc _).alloc _) o (by simp) | exact Only.trans (Only.drewN (((O0.out.alloc _).alloc _).alloc _) _) o (by simp) | exact Only.trans (Only.drew (((O0.out.alloc _).alloc _).alloc _)) o (by simp))
  obtain ⟨B0c0, B0c1, B0c2, B0l⟩ := B0x.facts3
  obtain ⟨B1c0, B1c1, B1l⟩ := B1x.facts2
  obtain ⟨B2c0, B2c1, B2c2, B2l⟩ := B2x.facts3
  clear B0n B1n B2n O0 o
  have B0 := Lib.hid B0x; have B1 := Lib.hid B1x; have B2 := Lib.hid B2x; have O1 := Lib.hid O1x
  clear B0x B1x B2x O1x
  have fr0 := B2.out.frozen 0
  have fr1 := B2.out.frozen 1
  have fr2 := B2.out.frozen 2
  go_wp2_with (fail)
  exact bodyPost_ret (v := .tuple #[.agg #[.int .i64 0, .int .i64 0, .int .i64 0], .int .i64 1]) (by simp [results, Tryd.results18, go_sem, B2c0, B2c1, B2c2]) rfl ⟨rfl, only_three O1.out (by simp; try omega) (by simp; try omega) (by simp; try omega) _ _ _⟩

set_option maxHeartbeats 1000000 in
theorem refafter_w2 (t : Tm)  (w : World) :
    Calls Tryd.prog 18 #[.agg #[.int .i64 1, .int .i64 0, .int .i64 0], .agg #[.int .i64 t.1, .int .i64 t.2]] w fun e w' => e = .returned (.tuple #[.agg #[.int .i64 0, .int .i64 0, .int .i64 0], .int .i64 1]) ∧ Only [] w w' := by
  have O0 := Lib.hid (Only.refl [] w)
  go_enter Tryd.func18, Tryd.ntmps18
  go_wp2_with (fail)
  refine (refstr (s := ((1, 0), 0)) ⟨ok_never, by unfold I64; omega⟩ stR_never _).mono ?_
  rintro e w1 ⟨rfl, o⟩
  have B0n : Blk (w.alloc (.cells #[.int .i64 1, .int .i64 0, .int .i64 0] 25)) (w.heap.size) 25 #[.int .i64 1, .int .i64 0, .int .i64 0] := (by have h := Blk.new w 25 #[.int .i64 1, .int .i64 0, .int .i64 0]; simpa using h)
  have B1n : Blk ((w.alloc (.cells #[.int .i64 1, .int .i64 0, .int .i64 0] 25)).alloc (.cells #[.int .i64 t.1, .int .i64 t.2] 23)) (w.heap.size + 1) 23 #[.int .i64 t.1, .int .i64 t.2] := (by have h := Blk.new (w.alloc (.cells #[.int .i64 1, .int .i64 0, .int .i64 0] 25)) 23 #[.int .i64 t.1, .int .i64 t.2]; simpa using h)
  have B2n : Blk (((w.alloc (.cells #[.int .i64 1, .int .i64 0, .int .i64 0] 25)).alloc (.cells #[.int .i64 t.1, .int .i64 t.2] 23)).alloc (.cells #[.int .i64 0, .int .i64 0, .int .i64 0] 25)) (w.heap.size + 2) 25 #[.int .i64 0, .int .i64 0, .int .i64 0] := (by have h := Blk.new ((w.alloc (.cells #[.int .i64 1, .int .i64 0, .int .i64 0] 25)).alloc (.cells #[.int .i64 t.1, .int .i64 t.2] 23)) 25 #[.int .i64 0, .int .i64 0, .int .i64 0]; simpa using h)
  have B0x := o.blk (t := 25) (cs := #[.int .i64 1, .int .i64 0, .int .i64 0]) (g := w.heap.size) (by first | exact ((B0n.alloc _).alloc _) | exact Blk.drewN ((B0n.alloc _).alloc _) _ | exact Blk.drew ((B0n.alloc _).alloc _)) (by simp)
  have B1x := o.blk (t := 23) (cs := #[.int .i64 t.1, .int .i64 t.2]) (g := w.heap.size + 1) (by first | exact (B1n.alloc _) | exact Blk.drewN (B1n.alloc _) _ | exact Blk.drew (B1n.alloc _)) (by simp)
  have B2x := o.blk (t := 25) (cs := #[.int .i64 0, .int .i64 0, .int .i64 0]) (g := w.heap.size + 2) (by first | exact B2n | exact Blk.drewN B2n _ | exact Blk.drew B2n) (by simp)
  have O1x : Only [] w w1 := (by first | exact Only.trans (((O0.out.alloc _).alloc _).alloc _) o (by simp) | exact Only.trans (Only.drewN (((O0.out.alloc _).alloc _).alloc _) _) o (by simp) | exact Only.trans (Only.drew (((O0.out.alloc _).alloc _).alloc _)) o (by simp))
  obtain ⟨B0c0, B0c1, B0c2, B0l⟩ := B0x.facts3
  obtain ⟨B1c0, B1c1, B1l⟩ := B1x.facts2
  obtain ⟨B2c0, B2c1, B2c2, B2l⟩ := B2x.facts3
  clear B0n B1n B2n O0 o
  have B0 := Lib.hid B0x; have B1 := Lib.hid B1x; have B2 := Lib.hid B2x; have O1 := Lib.hid O1x
  clear B0x B1x B2x O1x
  go_wp2_with (fail)
  refine (refnever_t _).mono ?_
  rintro e w2 ⟨rfl, o⟩
  have B0x := o.blk (t := 25) (cs := #[.int .i64 1, .int .i64 0, .int .i64 0]) (g := w.heap.size) (by first | exact B0.out | exact Blk.drewN B0.out _ | exact Blk.drew B0.out) (by simp)
  have B1x := o.blk (t := 23) (cs := #[.int .i64 t.1, .int .i64 t.2]) (g := w.heap.size + 1) (by first | exact B1.out | exact Blk.drewN B1.out _ | exact Blk.drew B1.out) (by simp)
  have B2x := o.blk (t := 25) (cs := #[.int .i64 0, .int .i64 0, .int .i64 0]) (g := w.heap.size + 2) (by first | exact B2.out | exact Blk.drewN B2.out _ | exact Blk.drew B2.out) (by simp)
  have O2x : Only [] w w2 := (by first | exact Only.trans O1.out o (by simp) | exact Only.trans (Only.drewN O1.out _) o (by simp) | exact Only.trans (Only.drew O1.out) o (by simp))
  obtain ⟨B0c0, B0c1, B0c2, B0l⟩ := B0x.facts3
  obtain ⟨B1c0, B1c1, B1l⟩ := B1x.facts2
  obtain ⟨B2c0, B2c1, B2c2, B2l⟩ := B2x.facts3
  clear B0 B1 B2 O1 o
  have B0 := Lib.hid B0x; have B1 := Lib.hid B1x; have B2 := Lib.hid B2x; have O2 := Lib.hid O2x
  clear B0x B1x B2x O2x
  have fr0 := B2.out.frozen 0
  have fr1 := B2.out.frozen 1
  have fr2 := B2.out.frozen 2
  go_wp2_with (fail)
  exact bodyPost_ret (v := .tuple #[.agg #[.int .i64 0, .int .i64 0, .int .i64 0], .int .i64 1]) (by simp [results, Tryd.results18, go_sem, B2c0, B2c1, B2c2]) rfl ⟨rfl, only_three O2.out (by simp; try omega) (by simp; try omega) (by simp; try omega) _ _ _⟩

set_option maxHeartbeats 1000000 in
theorem refafter_w3 (s : St) (t : Tm) (ho : s.ok) (hr : stR s = true) (hn : s.1.2 ≠ 0) (to : t.ok) (ht : t.right = false) (w : World) :
    Calls Tryd.prog 18 #[.agg #[.int .i64 s.1.1, .int .i64 s.1.2, .int .i64 s.2], .agg #[.int .i64 t.1, .int .i64 t.2]] w fun e w' => e = .returned (.tuple #[.agg #[.int .i64 0, .int .i64 0, .int .i64 0], .int .i64 1]) ∧ Only [] w w' := by
  have HR := Lib.hid hr
  clear hr
  have HT := Lib.hid ht
  clear ht
  have O0 := Lib.hid (Only.refl [] w)
  go_enter Tryd.func18, Tryd.ntmps18
  go_wp2_with (fail)
  refine (refstr ho HR.out _).mono ?_
  rintro e w1 ⟨rfl, o⟩
  have B0n : Blk (w.alloc (.cells #[.int .i64 s.1.1, .int .i64 s.1.2, .int .i64 s.2] 25)) (w.heap.size) 25 #[.int .i64 s.1.1, .int .i64 s.1.2, .int .i64 s.2] := (by have h := Blk.new w 25 #[.int .i64 s.1.1, .int .i64 s.1.2, .int .i64 s.2]; simpa using h)
  have B1n : Blk ((w.alloc (.cells #[.int .i64 s.1.1, .int .i64 s.1.2, .int .i64 s.2] 25)).alloc (.cells #[.int .i64 t.1, .int .i64 t.2] 23)) (w.heap.size + 1) 23 #[.int .i64 t.1, .int .i64 t.2] := (by have h := Blk.new (w.alloc (.cells #[.int .i64 s.1.1, .int .i64 s.1.2, .int .i64 s.2] 25)) 23 #[.int .i64 t.1, .int .i64 t.2]; simpa using h)
  have B2n : Blk (((w.alloc (.cells #[.int .i64 s.1.1, .int .i64 s.1.2, .int .i64 s.2] 25)).alloc (.cells #[.int .i64 t.1, .int .i64 t.2] 23)).alloc (.cells #[.int .i64 0, .int .i64 0, .int .i64 0] 25)) (w.heap.size + 2) 25 #[.int .i64 0, .int .i64 0, .int .i64 0] := (by have h := Blk.new ((w.alloc (.cells #[.int .i64 s.1.1, .int .i64 s.1.2, .int .i64 s.2] 25)).alloc (.cells #[.int .i64 t.1, .int .i64 t.2] 23)) 25 #[.int .i64 0, .int .i64 0, .int .i64 0]; simpa using h)
  have B0x := o.blk (t := 25) (cs := #[.int .i64 s.1.1, .int .i64 s.1.2, .int .i64 s.2]) (g := w.heap.size) (by first | exact ((B0n.alloc _).alloc _) | exact Blk.drewN ((B0n.alloc _).alloc _) _ | exact Blk.drew ((B0n.alloc _).alloc _)) (by simp)
  have B1x := o.blk (t := 23) (cs := #[.int .i64 t.1, .int .i64 t.2]) (g := w.heap.size + 1) (by first | exact (B1n.alloc _) | exact Blk.drewN (B1n.alloc _) _ | exact Blk.drew (B1n.alloc _)) (by simp)
  have B2x := o.blk (t := 25) (cs := #[.int .i64 0, .int .i64 0, .int .i64 0]) (g := w.heap.size + 2) (by first | exact B2n | exact Blk.drewN B2n _ | exact Blk.drew B2n) (by simp)
  have O1x : Only [] w w1 := (by first | exact Only.trans (((O0.out.alloc _).alloc _).alloc _) o (by simp) | exact Only.trans (Only.drewN (((O0.out.alloc _).alloc _).alloc _) _) o (by simp) | exact Only.trans (Only.drew (((O0.out.alloc _).alloc _).alloc _)) o (by simp))
  obtain ⟨B0c0, B0c1, B0c2, B0l⟩ := B0x.facts3
  obtain ⟨B1c0, B1c1, B1l⟩ := B1x.facts2
  obtain ⟨B2c0, B2c1, B2c2, B2l⟩ := B2x.facts3
  clear B0n B1n B2n O0 o
  have B0 := Lib.hid B0x; have B1 := Lib.hid B1x; have B2 := Lib.hid B2x; have O1 := Lib.hid O1x
  clear B0x B1x B2x O1x
  go_wp2_with (fail)
  refine (refnever_f hn _).mono ?_
  rintro e w2 ⟨rfl, o⟩
  have B0x := o.blk (t := 25) (cs := #[.int .i64 s.1.1, .int .i64 s.1.2, .int .i64 s.2]) (g := w.heap.size) (by first | exact B0.out | exact Blk.drewN B0.out _ | exact Blk.drew B0.out) (by simp)
  have B1x := o.blk (t := 23) (cs := #[.int .i64 t.1, .int .i64 t.2]) (g := w.heap.size + 1) (by first | exact B1.out | exact Blk.drewN B1.out _ | exact Blk.drew B1.out) (by simp)
  have B2x := o.blk (t := 25) (cs := #[.int .i64 0, .int .i64 0, .int .i64 0]) (g := w.heap.size + 2) (by first | exact B2.out | exact Blk.drewN B2.out _ | exact Blk.drew B2.out) (by simp)
  have O2x : Only [] w w2 := (by first | exact Only.trans O1.out o (by simp) | exact Only.trans (Only.drewN O1.out _) o (by simp) | exact Only.trans (Only.drew O1.out) o (by simp))
  obtain ⟨B0c0, B0c1, B0c2, B0l⟩ := B0x.facts3
  obtain ⟨B1c0, B1c1, B1l⟩ := B1x.facts2
  obtain ⟨B2c0, B2c1, B2c2, B2l⟩ := B2x.facts3
  clear B0 B1 B2 O1 o
  have B0 := Lib.hid B0x; have B1 := Lib.hid B1x; have B2 := Lib.hid B2x; have O2 := Lib.hid O2x
  clear B0x B1x B2x O2x
  go_wp2_with (fail)
  refine (refrightr to HT.out _).mono ?_
  rintro e w3 ⟨rfl, o⟩
  have B0x := o.blk (t := 25) (cs := #[.int .i64 s.1.1, .int .i64 s.1.2, .int .i64 s.2]) (g := w.heap.size) (by first | exact B0.out | exact Blk.drewN B0.out _ | exact Blk.drew B0.out) (by simp)
  have B1x := o.blk (t := 23) (cs := #[.int .i64 t.1, .int .i64 t.2]) (g := w.heap.size + 1) (by first | exact B1.out | exact Blk.drewN B1.out _ | exact Blk.drew B1.out) (by simp)
  have B2x := o.blk (t := 25) (cs := #[.int .i64 0, .int .i64 0, .int .i64 0]) (g := w.heap.size + 2) (by first | exact B2.out | exact Blk.drewN B2.out _ | exact Blk.drew B2.out) (by simp)
  have O3x : Only [] w w3 := (by first | exact Only.trans O2.out o (by simp) | exact Only.trans (Only.drewN O2.out _) o (by simp) | exact Only.trans (Only.drew O2.out) o (by simp))
  obtain ⟨B0c0, B0c1, B0c2, B0l⟩ := B0x.facts3
  obtain ⟨B1c0, B1c1, B1l⟩ := B1x.facts2
  obtain ⟨B2c0, B2c1, B2c2, B2l⟩ := B2x.facts3
  clear B0 B1 B2 O2 o
  have B0 := Lib.hid B0x; have B1 := Lib.hid B1x; have B2 := Lib.hid B2x; have O3 := Lib.hid O3x
  clear B0x B1x B2x O3x
  have fr0 := B2.out.frozen 0
  have fr1 := B2.out.frozen 1
  have fr2 := B2.out.frozen 2
  go_wp2_with (fail)
  exact bodyPost_ret (v := .tuple #[.agg #[.int .i64 0, .int .i64 0, .int .i64 0], .int .i64 1]) (by simp [results, Tryd.results18, go_sem, B2c0, B2c1, B2c2]) rfl ⟨rfl, only_three O3.out (by simp; try omega) (by simp; try omega) (by simp; try omega) _ _ _⟩

set_option maxHeartbeats 1000000 in
theorem refafter_nv (s : St) (ho : s.ok) (hr : stR s = true) (hn : s.1.2 ≠ 0) (w : World) :
    Calls Tryd.prog 18 #[.agg #[.int .i64 s.1.1, .int .i64 s.1.2, .int .i64 s.2], .agg #[.int .i64 1, .int .i64 0]] w fun e w' => e = .returned (.tuple #[.agg #[.int .i64 1, .int .i64 0, .int .i64 0], .int .i64 0]) ∧ Only [] w w' := by
  have HR := Lib.hid hr
  clear hr
  have O0 := Lib.hid (Only.refl [] w)
  go_enter Tryd.func18, Tryd.ntmps18
  go_wp2_with (fail)
  refine (refstr ho HR.out _).mono ?_
  rintro e w1 ⟨rfl, o⟩
  have B0n : Blk (w.alloc (.cells #[.int .i64 s.1.1, .int .i64 s.1.2, .int .i64 s.2] 25)) (w.heap.size) 25 #[.int .i64 s.1.1, .int .i64 s.1.2, .int .i64 s.2] := (by have h := Blk.new w 25 #[.int .i64 s.1.1, .int .i64 s.1.2, .int .i64 s.2]; simpa using h)
  have B1n : Blk ((w.alloc (.cells #[.int .i64 s.1.1, .int .i64 s.1.2, .int .i64 s.2] 25)).alloc (.cells #[.int .i64 1, .int .i64 0] 23)) (w.heap.size + 1) 23 #[.int .i64 1, .int .i64 0] := (by have h := Blk.new (w.alloc (.cells #[.int .i64 s.1.1, .int .i64 s.1.2, .int .i64 s.2] 25)) 23 #[.int .i64 1, .int .i64 0]; simpa using h)
  have B2n : Blk (((w.alloc (.cells #[.int .i64 s.1.1, .int .i64 s.1.2, .int .i64 s.2] 25)).alloc (.cells #[.int .i64 1, .int .i64 0] 23)).alloc (.cells #[.int .i64 0, .int .i64 0, .int .i64 0] 25)) (w.heap.size + 2) 25 #[.int .i64 0, .int .i64 0, .int .i64 0] := (by have h := Blk.new ((w.alloc (.cells #[.int .i64 s.1.1, .int .i64 s.1.2, .int .i64 s.2] 25)).alloc (.cells #[.int .i64 1, .int .i64 0] 23)) 25 #[.int .i64 0, .int .i64 0, .int .i64 0]; simpa using h)
  have B0x := o.blk (t := 25) (cs := #[.int .i64 s.1.1, .int .i64 s.1.2, .int .i64 s.2]) (g := w.heap.size) (by first | exact ((B0n.alloc _).alloc _) | exact Blk.drewN ((B0n.alloc _).alloc _) _ | exact Blk.drew ((B0n.alloc _).alloc _)) (by simp)
  have B1x := o.blk (t := 23) (cs := #[.int .i64 1, .int .i64 0]) (g := w.heap.size + 1) (by first | exact (B1n.alloc _) | exact Blk.drewN (B1n.alloc _) _ | exact Blk.drew (B1n.alloc _)) (by simp)
  have B2x := o.blk (t := 25) (cs := #[.int .i64 0, .int .i64 0, .int .i64 0]) (g := w.heap.size + 2) (by first | exact B2n | exact Blk.drewN B2n _ | exact Blk.drew B2n) (by simp)
  have O1x : Only [] w w1 := (by first | exact Only.trans (((O0.out.alloc _).alloc _).alloc _) o (by simp) | exact Only.trans (Only.drewN (((O0.out.alloc _).alloc _).alloc _) _) o (by simp) | exact Only.trans (Only.drew (((O0.out.alloc _).alloc _).alloc _)) o (by simp))
  obtain ⟨B0c0, B0c1, B0c2, B0l⟩ := B0x.facts3
  obtain ⟨B1c0, B1c1, B1l⟩ := B1x.facts2
  obtain ⟨B2c0, B2c1, B2c2, B2l⟩ := B2x.facts3
  clear B0n B1n B2n O0 o
  have B0 := Lib.hid B0x; have B1 := Lib.hid B1x; have B2 := Lib.hid B2x; have O1 := Lib.hid O1x
  clear B0x B1x B2x O1x
  go_wp2_with (fail)
  refine (refnever_f hn _).mono ?_
  rintro e w2 ⟨rfl, o⟩
  have B0x := o.blk (t := 25) (cs := #[.int .i64 s.1.1, .int .i64 s.1.2, .int .i64 s.2]) (g := w.heap.size) (by first | exact B0.out | exact Blk.drewN B0.out _ | exact Blk.drew B0.out) (by simp)
  have B1x := o.blk (t := 23) (cs := #[.int .i64 1, .int .i64 0]) (g := w.heap.size + 1) (by first | exact B1.out | exact Blk.drewN B1.out _ | exact Blk.drew B1.out) (by simp)
  have B2x := o.blk (t := 25) (cs := #[.int .i64 0, .int .i64 0, .int .i64 0]) (g := w.heap.size + 2) (by first | exact B2.out | exact Blk.drewN B2.out _ | exact Blk.drew B2.out) (by simp)
  have O2x : Only [] w w2 := (by first | exact Only.trans O1.out o (by simp) | exact Only.trans (Only.drewN O1.out _) o (by simp) | exact Only.trans (Only.drew O1.out) o (by simp))
  obtain ⟨B0c0, B0c1, B0c2, B0l⟩ := B0x.facts3
  obtain ⟨B1c0, B1c1, B1l⟩ := B1x.facts2
  obtain ⟨B2c0, B2c1, B2c2, B2l⟩ := B2x.facts3
  clear B0 B1 B2 O1 o
  have B0 := Lib.hid B0x; have B1 := Lib.hid B1x; have B2 := Lib.hid B2x; have O2 := Lib.hid O2x
  clear B0x B1x B2x O2x
  go_wp2_with (fail)
  refine (refr_nv _).mono ?_
  rintro e w3 ⟨rfl, o⟩
  have B0x := o.blk (t := 25) (cs := #[.int .i64 s.1.1, .int .i64 s.1.2, .int .i64 s.2]) (g := w.heap.size) (by first | exact B0.out | exact Blk.drewN B0.out _ | exact Blk.drew B0.out) (by simp)
  have B1x := o.blk (t := 23) (cs := #[.int .i64 1, .int .i64 0]) (g := w.heap.size + 1) (by first | exact B1.out | exact Blk.drewN B1.out _ | exact Blk.drew B1.out) (by simp)
  have B2x := o.blk (t := 25) (cs := #[.int .i64 0, .int .i64 0, .int .i64 0]) (g := w.heap.size + 2) (by first | exact B2.out | exact Blk.drewN B2.out _ | exact Blk.drew B2.out) (by simp)
  have O3x : Only [] w w3 := (by first | exact Only.trans O2.out o (by simp) | exact Only.trans (Only.drewN O2.out _) o (by simp) | exact Only.trans (Only.drew O2.out) o (by simp))
  obtain ⟨B0c0, B0c1, B0c2, B0l⟩ := B0x.facts3
  obtain ⟨B1c0, B1c1, B1l⟩ := B1x.facts2
  obtain ⟨B2c0, B2c1, B2c2, B2l⟩ := B2x.facts3
  clear B0 B1 B2 O2 o
  have B0 := Lib.hid B0x; have B1 := Lib.hid B1x; have B2 := Lib.hid B2x; have O3 := Lib.hid O3x
  clear B0x B1x B2x O3x
  go_wp2_with (fail)
  refine (refnever_t _).mono ?_
  rintro e w4 ⟨rfl, o⟩
  have B0x := o.blk (t := 25) (cs := #[.int .i64 s.1.1, .int .i64 s.1.2, .int .i64 s.2]) (g := w.heap.size) (by first | exact B0.out | exact Blk.drewN B0.out _ | exact Blk.drew B0.out) (by simp)
  have B1x := o.blk (t := 23) (cs := #[.int .i64 1, .int .i64 0]) (g := w.heap.size + 1) (by first | exact B1.out | exact Blk.drewN B1.out _ | exact Blk.drew B1.out) (by simp)
  have B2x := o.blk (t := 25) (cs := #[.int .i64 0, .int .i64 0, .int .i64 0]) (g := w.heap.size + 2) (by first | exact B2.out | exact Blk.drewN B2.out _ | exact Blk.drew B2.out) (by simp)
  have O4x : Only [] w w4 := (by first | exact Only.trans O3.out o (by simp) | exact Only.trans (Only.drewN O3.out _) o (by simp) | exact Only.trans (Only.drew O3.out) o (by simp))
  obtain ⟨B0c0, B0c1, B0c2, B0l⟩ := B0x.facts3
  obtain ⟨B1c0, B1c1, B1l⟩ := B1x.facts2
  obtain ⟨B2c0, B2c1, B2c2, B2l⟩ := B2x.facts3
  clear B0 B1 B2 O3 o
  have B0 := Lib.hid B0x; have B1 := Lib.hid B1x; have B2 := Lib.hid B2x; have O4 := Lib.hid O4x
  clear B0x B1x B2x O4x
  go_wp2_with (fail)
  refine (refstnever_any _).mono ?_
  rintro e w5 ⟨rfl, o⟩
  have B0x := o.blk (t := 25) (cs := #[.int .i64 s.1.1, .int .i64 s.1.2, .int .i64 s.2]) (g := w.heap.size) (by first | exact B0.out | exact Blk.drewN B0.out _ | exact Blk.drew B0.out) (by simp)
  have B1x := o.blk (t := 23) (cs := #[.int .i64 1, .int .i64 0]) (g := w.heap.size + 1) (by first | exact B1.out | exact Blk.drewN B1.out _ | exact Blk.drew B1.out) (by simp)
  have B2x := o.blk (t := 25) (cs := #[.int .i64 0, .int .i64 0, .int .i64 0]) (g := w.heap.size + 2) (by first | exact B2.out | exact Blk.drewN B2.out _ | exact Blk.drew B2.out) (by simp)
  have O5x : Only [] w w5 := (by first | exact Only.trans O4.out o (by simp) | exact Only.trans (Only.drewN O4.out _) o (by simp) | exact Only.trans (Only.drew O4.out) o (by simp))
  obtain ⟨B0c0, B0c1, B0c2, B0l⟩ := B0x.facts3
  obtain ⟨B1c0, B1c1, B1l⟩ := B1x.facts2
  obtain ⟨B2c0, B2c1, B2c2, B2l⟩ := B2x.facts3
  clear B0 B1 B2 O4 o
  have B0 := Lib.hid B0x; have B1 := Lib.hid B1x; have B2 := Lib.hid B2x; have O5 := Lib.hid O5x
  clear B0x B1x B2x O5x
  have fr0 := B2.out.frozen 0
  have fr1 := B2.out.frozen 1
  have fr2 := B2.out.frozen 2
  go_wp2_with (fail)
  exact bodyPost_ret (v := .tuple #[.agg #[.int .i64 1, .int .i64 0, .int .i64 0], .int .i64 0]) (by simp [results, Tryd.results18, go_sem, B2c0, B2c1, B2c2]) rfl ⟨rfl, only_three O5.out (by simp; try omega) (by simp; try omega) (by simp; try omega) _ _ _⟩

set_option maxHeartbeats 1000000 in
theorem refafter_m (s : St) (t : Tm) (ho : s.ok) (hr : stR s = true) (hn : s.1.2 ≠ 0) (to : t.ok) (ht : t.right = true) (hq : t.2 ≠ 0) (h0 : t.1 = 0) (hc : s.2 = 1099511627776) (w : World) :
    Calls Tryd.prog 18 #[.agg #[.int .i64 s.1.1, .int .i64 s.1.2, .int .i64 s.2], .agg #[.int .i64 t.1, .int .i64 t.2]] w fun e w' => e = .returned (.tuple #[.agg #[.int .i64 0, .int .i64 0, .int .i64 0], .int .i64 2]) ∧ Only [] w w' := by
  have HR := Lib.hid hr
  clear hr
  have HT := Lib.hid ht
  clear ht
  have h0' : (t.1 == 0) = true := by simp; omega
  have hc' : (s.2 == 1099511627776) = true := by simp; omega
  clear h0 hc
  have O0 := Lib.hid (Only.refl [] w)
  go_enter Tryd.func18, Tryd.ntmps18
  go_wp2_with (fail)
  refine (refstr ho HR.out _).mono ?_
  rintro e w1 ⟨rfl, o⟩
  have B0n : Blk (w.alloc (.cells #[.int .i64 s.1.1, .int .i64 s.1.2, .int .i64 s.2] 25)) (w.heap.size) 25 #[.int .i64 s.1.1, .int .i64 s.1.2, .int .i64 s.2] := (by have h := Blk.new w 25 #[.int .i64 s.1.1, .int .i64 s.1.2, .int .i64 s.2]; simpa using h)
  have B1n : Blk ((w.alloc (.cells #[.int .i64 s.1.1, .int .i64 s.1.2, .int .i64 s.2] 25)).alloc (.cells #[.int .i64 t.1, .int .i64 t.2] 23)) (w.heap.size + 1) 23 #[.int .i64 t.1, .int .i64 t.2] := (by have h := Blk.new (w.alloc (.cells #[.int .i64 s.1.1, .int .i64 s.1.2, .int .i64 s.2] 25)) 23 #[.int .i64 t.1, .int .i64 t.2]; simpa using h)
  have B2n : Blk (((w.alloc (.cells #[.int .i64 s.1.1, .int .i64 s.1.2, .int .i64 s.2] 25)).alloc (.cells #[.int .i64 t.1, .int .i64 t.2] 23)).alloc (.cells #[.int .i64 0, .int .i64 0, .int .i64 0] 25)) (w.heap.size + 2) 25 #[.int .i64 0, .int .i64 0, .int .i64 0] := (by have h := Blk.new ((w.alloc (.cells #[.int .i64 s.1.1, .int .i64 s.1.2, .int .i64 s.2] 25)).alloc (.cells #[.int .i64 t.1, .int .i64 t.2] 23)) 25 #[.int .i64 0, .int .i64 0, .int .i64 0]; simpa using h)
  have B0x := o.blk (t := 25) (cs := #[.int .i64 s.1.1, .int .i64 s.1.2, .int .i64 s.2]) (g := w.heap.size) (by first | exact ((B0n.alloc _).alloc _) | exact Blk.drewN ((B0n.alloc _).alloc _) _ | exact Blk.drew ((B0n.alloc _).alloc _)) (by simp)
  have B1x := o.blk (t := 23) (cs := #[.int .i64 t.1, .int .i64 t.2]) (g := w.heap.size + 1) (by first | exact (B1n.alloc _) | exact Blk.drewN (B1n.alloc _) _ | exact Blk.drew (B1n.alloc _)) (by simp)
  have B2x := o.blk (t := 25) (cs := #[.int .i64 0, .int .i64 0, .int .i64 0]) (g := w.heap.size + 2) (by first | exact B2n | exact Blk.drewN B2n _ | exact Blk.drew B2n) (by simp)
  have O1x : Only [] w w1 := (by first | exact Only.trans (((O0.out.alloc _).alloc _).alloc _) o (by simp) | exact Only.trans (Only.drewN (((O0.out.alloc _).alloc _).alloc _) _) o (by simp) | exact Only.trans (Only.drew (((O0.out.alloc _).alloc _).alloc _)) o (by simp))
  obtain ⟨B0c0, B0c1, B0c2, B0l⟩ := B0x.facts3
  obtain ⟨B1c0, B1c1, B1l⟩ := B1x.facts2
  obtain ⟨B2c0, B2c1, B2c2, B2l⟩ := B2x.facts3
  clear B0n B1n B2n O0 o
  have B0 := Lib.hid B0x; have B1 := Lib.hid B1x; have B2 := Lib.hid B2x; have O1 := Lib.hid O1x
  clear B0x B1x B2x O1x
  go_wp2_with (fail)
  refine (refnever_f hn _).mono ?_
  rintro e w2 ⟨rfl, o⟩
  have B0x := o.blk (t := 25) (cs := #[.int .i64 s.1.1, .int .i64 s.1.2, .int .i64 s.2]) (g := w.heap.size) (by first | exact B0.out | exact Blk.drewN B0.out _ | exact Blk.drew B0.out) (by simp)
  have B1x := o.blk (t := 23) (cs := #[.int .i64 t.1, .int .i64 t.2]) (g := w.heap.size + 1) (by first | exact B1.out | exact Blk.drewN B1.out _ | exact Blk.drew B1.out) (by simp)
  have B2x := o.blk (t := 25) (cs := #[.int .i64 0, .int .i64 0, .int .i64 0]) (g := w.heap.size + 2) (by first | exact B2.out | exact Blk.drewN B2.out _ | exact Blk.drew B2.out) (by simp)
  have O2x : Only [] w w2 := (by first | exact Only.trans O1.out o (by simp) | exact Only.trans (Only.drewN O1.out _) o (by simp) | exact Only.trans (Only.drew O1.out) o (by simp))
  obtain ⟨B0c0, B0c1, B0c2, B0l⟩ := B0x.facts3
  obtain ⟨B1c0, B1c1, B1l⟩ := B1x.facts2
  obtain ⟨B2c0, B2c1, B2c2, B2l⟩ := B2x.facts3
  clear B0 B1 B2 O1 o
  have B0 := Lib.hid B0x; have B1 := Lib.hid B1x; have B2 := Lib.hid B2x; have O2 := Lib.hid O2x
  clear B0x B1x B2x O2x
  go_wp2_with (fail)
  refine (refrightr to HT.out _).mono ?_
  rintro e w3 ⟨rfl, o⟩
  have B0x := o.blk (t := 25) (cs := #[.int .i64 s.1.1, .int .i64 s.1.2, .int .i64 s.2]) (g := w.heap.size) (by first | exact B0.out | exact Blk.drewN B0.out _ | exact Blk.drew B0.out) (by simp)
  have B1x := o.blk (t := 23) (cs := #[.int .i64 t.1, .int .i64 t.2]) (g := w.heap.size + 1) (by first | exact B1.out | exact Blk.drewN B1.out _ | exact Blk.drew B1.out) (by simp)
  have B2x := o.blk (t := 25) (cs := #[.int .i64 0, .int .i64 0, .int .i64 0]) (g := w.heap.size + 2) (by first | exact B2.out | exact Blk.drewN B2.out _ | exact Blk.drew B2.out) (by simp)
  have O3x : Only [] w w3 := (by first | exact Only.trans O2.out o (by simp) | exact Only.trans (Only.drewN O2.out _) o (by simp) | exact Only.trans (Only.drew O2.out) o (by simp))
  obtain ⟨B0c0, B0c1, B0c2, B0l⟩ := B0x.facts3
  obtain ⟨B1c0, B1c1, B1l⟩ := B1x.facts2
  obtain ⟨B2c0, B2c1, B2c2, B2l⟩ := B2x.facts3
  clear B0 B1 B2 O2 o
  have B0 := Lib.hid B0x; have B1 := Lib.hid B1x; have B2 := Lib.hid B2x; have O3 := Lib.hid O3x
  clear B0x B1x B2x O3x
  go_wp2_with (fail)
  refine (refnever_f hq _).mono ?_
  rintro e w4 ⟨rfl, o⟩
  have B0x := o.blk (t := 25) (cs := #[.int .i64 s.1.1, .int .i64 s.1.2, .int .i64 s.2]) (g := w.heap.size) (by first | exact B0.out | exact Blk.drewN B0.out _ | exact Blk.drew B0.out) (by simp)
  have B1x := o.blk (t := 23) (cs := #[.int .i64 t.1, .int .i64 t.2]) (g := w.heap.size + 1) (by first | exact B1.out | exact Blk.drewN B1.out _ | exact Blk.drew B1.out) (by simp)
  have B2x := o.blk (t := 25) (cs := #[.int .i64 0, .int .i64 0, .int .i64 0]) (g := w.heap.size + 2) (by first | exact B2.out | exact Blk.drewN B2.out _ | exact Blk.drew B2.out) (by simp)
  have O4x : Only [] w w4 := (by first | exact Only.trans O3.out o (by simp) | exact Only.trans (Only.drewN O3.out _) o (by simp) | exact Only.trans (Only.drew O3.out) o (by simp))
  obtain ⟨B0c0, B0c1, B0c2, B0l⟩ := B0x.facts3
  obtain ⟨B1c0, B1c1, B1l⟩ := B1x.facts2
  obtain ⟨B2c0, B2c1, B2c2, B2l⟩ := B2x.facts3
  clear B0 B1 B2 O3 o
  have B0 := Lib.hid B0x; have B1 := Lib.hid B1x; have B2 := Lib.hid B2x; have O4 := Lib.hid O4x
  clear B0x B1x B2x O4x
  have fr0 := B2.out.frozen 0
  have fr1 := B2.out.frozen 1
  have fr2 := B2.out.frozen 2
  go_wp2_with (fail)
  exact bodyPost_ret (v := .tuple #[.agg #[.int .i64 0, .int .i64 0, .int .i64 0], .int .i64 2]) (by simp [results, Tryd.results18, go_sem, B2c0, B2c1, B2c2]) rfl ⟨rfl, only_three O4.out (by simp; try omega) (by simp; try omega) (by simp; try omega) _ _ _⟩

set_option maxHeartbeats 1000000 in
theorem refafter_k (s : St) (t : Tm) (ho : s.ok) (hr : stR s = true) (hn : s.1.2 ≠ 0) (to : t.ok) (ht : t.right = true) (hq : t.2 ≠ 0) (h0 : t.1 = 0) (hc1 : 0 ≤ s.2) (hc2 : s.2 ≤ 1099511627776) (hc : s.2 ≠ 1099511627776) (w : World) :
    Calls Tryd.prog 18 #[.agg #[.int .i64 s.1.1, .int .i64 s.1.2, .int .i64 s.2], .agg #[.int .i64 t.1, .int .i64 t.2]] w fun e w' => e = .returned (.tuple #[.agg #[.int .i64 s.1.1, .int .i64 s.1.2, .int .i64 (s.2 + 1)], .int .i64 0]) ∧ Only [] w w' := by
  have HR := Lib.hid hr
  clear hr
  have HT := Lib.hid ht
  clear ht
  have h0' : (t.1 == 0) = true := by simp; omega
  have hc' : (s.2 == 1099511627776) = false := by simp; omega
  clear h0 hc
  have O0 := Lib.hid (Only.refl [] w)
  go_enter Tryd.func18, Tryd.ntmps18
  go_wp2_with (fail)
  refine (refstr ho HR.out _).mono ?_
  rintro e w1 ⟨rfl, o⟩
  have B0n : Blk (w.alloc (.cells #[.int .i64 s.1.1, .int .i64 s.1.2, .int .i64 s.2] 25)) (w.heap.size) 25 #[.int .i64 s.1.1, .int .i64 s.1.2, .int .i64 s.2] := (by have h := Blk.new w 25 #[.int .i64 s.1.1, .int .i64 s.1.2, .int .i64 s.2]; simpa using h)
  have B1n : Blk ((w.alloc (.cells #[.int .i64 s.1.1, .int .i64 s.1.2, .int .i64 s.2] 25)).alloc (.cells #[.int .i64 t.1, .int .i64 t.2] 23)) (w.heap.size + 1) 23 #[.int .i64 t.1, .int .i64 t.2] := (by have h := Blk.new (w.alloc (.cells #[.int .i64 s.1.1, .int .i64 s.1.2, .int .i64 s.2] 25)) 23 #[.int .i64 t.1, .int .i64 t.2]; simpa using h)
  have B2n : Blk (((w.alloc (.cells #[.int .i64 s.1.1, .int .i64 s.1.2, .int .i64 s.2] 25)).alloc (.cells #[.int .i64 t.1, .int .i64 t.2] 23)).alloc (.cells #[.int .i64 0, .int .i64 0, .int .i64 0] 25)) (w.heap.size + 2) 25 #[.int .i64 0, .int .i64 0, .int .i64 0] := (by have h := Blk.new ((w.alloc (.cells #[.int .i64 s.1.1, .int .i64 s.1.2, .int .i64 s.2] 25)).alloc (.cells #[.int .i64 t.1, .int .i64 t.2] 23)) 25 #[.int .i64 0, .int .i64 0, .int .i64 0]; simpa using h)
  have B0x := o.blk (t := 25) (cs := #[.int .i64 s.1.1, .int .i64 s.1.2, .int .i64 s.2]) (g := w.heap.size) (by first | exact ((B0n.alloc _).alloc _) | exact Blk.drewN ((B0n.alloc _).alloc _) _ | exact Blk.drew ((B0n.alloc _).alloc _)) (by simp)
  have B1x := o.blk (t := 23) (cs := #[.int .i64 t.1, .int .i64 t.2]) (g := w.heap.size + 1) (by first | exact (B1n.alloc _) | exact Blk.drewN (B1n.alloc _) _ | exact Blk.drew (B1n.alloc _)) (by simp)
  have B2x := o.blk (t := 25) (cs := #[.int .i64 0, .int .i64 0, .int .i64 0]) (g := w.heap.size + 2) (by first | exact B2n | exact Blk.drewN B2n _ | exact Blk.drew B2n) (by simp)
  have O1x : Only [] w w1 := (by first | exact Only.trans (((O0.out.alloc _).alloc _).alloc _) o (by simp) | exact Only.trans (Only.drewN (((O0.out.alloc _).alloc _).alloc _) _) o (by simp) | exact Only.trans (Only.drew (((O0.out.alloc _).alloc _).alloc _)) o (by simp))
  obtain ⟨B0c0, B0c1, B0c2, B0l⟩ := B0x.facts3
  obtain ⟨B1c0, B1c1, B1l⟩ := B1x.facts2
  obtain ⟨B2c0, B2c1, B2c2, B2l⟩ := B2x.facts3
  clear B0n B1n B2n O0 o
  have B0 := Lib.hid B0x; have B1 := Lib.hid B1x; have B2 := Lib.hid B2x; have O1 := Lib.hid O1x
  clear B0x B1x B2x O1x
  go_wp2_with (fail)
  refine (refnever_f hn _).mono ?_
  rintro e w2 ⟨rfl, o⟩
  have B0x := o.blk (t := 25) (cs := #[.int .i64 s.1.1, .int .i64 s.1.2, .int .i64 s.2]) (g := w.heap.size) (by first | exact B0.out | exact Blk.drewN B0.out _ | exact Blk.drew B0.out) (by simp)
  have B1x := o.blk (t := 23) (cs := #[.int .i64 t.1, .int .i64 t.2]) (g := w.heap.size + 1) (by first | exact B1.out | exact Blk.drewN B1.out _ | exact Blk.drew B1.out) (by simp)
  have B2x := o.blk (t := 25) (cs := #[.int .i64 0, .int .i64 0, .int .i64 0]) (g := w.heap.size + 2) (by first | exact B2.out | exact Blk.drewN B2.out _ | exact Blk.drew B2.out) (by simp)
  have O2x : Only [] w w2 := (by first | exact Only.trans O1.out o (by simp) | exact Only.trans (Only.drewN O1.out _) o (by simp) | exact Only.trans (Only.drew O1.out) o (by simp))
  obtain ⟨B0c0, B0c1, B0c2, B0l⟩ := B0x.facts3
  obtain ⟨B1c0, B1c1, B1l⟩ := B1x.facts2
  obtain ⟨B2c0, B2c1, B2c2, B2l⟩ := B2x.facts3
  clear B0 B1 B2 O1 o
  have B0 := Lib.hid B0x; have B1 := Lib.hid B1x; have B2 := Lib.hid B2x; have O2 := Lib.hid O2x
  clear B0x B1x B2x O2x
  go_wp2_with (fail)
  refine (refrightr to HT.out _).mono ?_
  rintro e w3 ⟨rfl, o⟩
  have B0x := o.blk (t := 25) (cs := #[.int .i64 s.1.1, .int .i64 s.1.2, .int .i64 s.2]) (g := w.heap.size) (by first | exact B0.out | exact Blk.drewN B0.out _ | exact Blk.drew B0.out) (by simp)
  have B1x := o.blk (t := 23) (cs := #[.int .i64 t.1, .int .i64 t.2]) (g := w.heap.size + 1) (by first | exact B1.out | exact Blk.drewN B1.out _ | exact Blk.drew B1.out) (by simp)
  have B2x := o.blk (t := 25) (cs := #[.int .i64 0, .int .i64 0, .int .i64 0]) (g := w.heap.size + 2) (by first | exact B2.out | exact Blk.drewN B2.out _ | exact Blk.drew B2.out) (by simp)
  have O3x : Only [] w w3 := (by first | exact Only.trans O2.out o (by simp) | exact Only.trans (Only.drewN O2.out _) o (by simp) | exact Only.trans (Only.drew O2.out) o (by simp))
  obtain ⟨B0c0, B0c1, B0c2, B0l⟩ := B0x.facts3
  obtain ⟨B1c0, B1c1, B1l⟩ := B1x.facts2
  obtain ⟨B2c0, B2c1, B2c2, B2l⟩ := B2x.facts3
  clear B0 B1 B2 O2 o
  have B0 := Lib.hid B0x; have B1 := Lib.hid B1x; have B2 := Lib.hid B2x; have O3 := Lib.hid O3x
  clear B0x B1x B2x O3x
  go_wp2_with (fail)
  refine (refnever_f hq _).mono ?_
  rintro e w4 ⟨rfl, o⟩
  have B0x := o.blk (t := 25) (cs := #[.int .i64 s.1.1, .int .i64 s.1.2, .int .i64 s.2]) (g := w.heap.size) (by first | exact B0.out | exact Blk.drewN B0.out _ | exact Blk.drew B0.out) (by simp)
  have B1x := o.blk (t := 23) (cs := #[.int .i64 t.1, .int .i64 t.2]) (g := w.heap.size + 1) (by first | exact B1.out | exact Blk.drewN B1.out _ | exact Blk.drew B1.out) (by simp)
  have B2x := o.blk (t := 25) (cs := #[.int .i64 0, .int .i64 0, .int .i64 0]) (g := w.heap.size + 2) (by first | exact B2.out | exact Blk.drewN B2.out _ | exact Blk.drew B2.out) (by simp)
  have O4x : Only [] w w4 := (by first | exact Only.trans O3.out o (by simp) | exact Only.trans (Only.drewN O3.out _) o (by simp) | exact Only.trans (Only.drew O3.out) o (by simp))
  obtain ⟨B0c0, B0c1, B0c2, B0l⟩ := B0x.facts3
  obtain ⟨B1c0, B1c1, B1l⟩ := B1x.facts2
  obtain ⟨B2c0, B2c1, B2c2, B2l⟩ := B2x.facts3
  clear B0 B1 B2 O3 o
  have B0 := Lib.hid B0x; have B1 := Lib.hid B1x; have B2 := Lib.hid B2x; have O4 := Lib.hid O4x
  clear B0x B1x B2x O4x
  have fr0 := B2.out.frozen 0
  have fr1 := B2.out.frozen 1
  have fr2 := B2.out.frozen 2
  go_wp2_with (fail)
  exact bodyPost_ret (v := .tuple #[.agg #[.int .i64 s.1.1, .int .i64 s.1.2, .int .i64 (s.2 + 1)], .int .i64 0]) (by simp [results, Tryd.results18, go_sem, B2c0, B2c1, B2c2]) rfl ⟨rfl, only_three O4.out (by simp; try omega) (by simp; try omega) (by simp; try omega) _ _ _⟩

set_option maxHeartbeats 1000000 in
theorem refafter_a (s : St) (t : Tm) (ho : s.ok) (hr : stR s = true) (hn : s.1.2 ≠ 0) (to : t.ok) (ht : t.right = true) (hq : t.2 ≠ 0) (h0 : t.1 ≠ 0) {m : Tm} {x : Int} (hu : addT s.1 t = (m, x)) (w : World) :
    Calls Tryd.prog 18 #[.agg #[.int .i64 s.1.1, .int .i64 s.1.2, .int .i64 s.2], .agg #[.int .i64 t.1, .int .i64 t.2]] w fun e w' => e = .returned (.tuple #[.agg #[.int .i64 m.1, .int .i64 m.2, .int .i64 0], .int .i64 x]) ∧ Only [] w w' := by
  have HR := Lib.hid hr
  clear hr
  have HT := Lib.hid ht
  clear ht
  have HU := Lib.hid hu
  have h0' : (t.1 == 0) = false := by simp; omega
  clear hu h0
  have O0 := Lib.hid (Only.refl [] w)
  go_enter Tryd.func18, Tryd.ntmps18
  go_wp2_with (fail)
  refine (refstr ho HR.out _).mono ?_
  rintro e w1 ⟨rfl, o⟩
  have B0n : Blk (w.alloc (.cells #[.int .i64 s.1.1, .int .i64 s.1.2, .int .i64 s.2] 25)) (w.heap.size) 25 #[.int .i64 s.1.1, .int .i64 s.1.2, .int .i64 s.2] := (by have h := Blk.new w 25 #[.int .i64 s.1.1, .int .i64 s.1.2, .int .i64 s.2]; simpa using h)
  have B1n : Blk ((w.alloc (.cells #[.int .i64 s.1.1, .int .i64 s.1.2, .int .i64 s.2] 25)).alloc (.cells #[.int .i64 t.1, .int .i64 t.2] 23)) (w.heap.size + 1) 23 #[.int .i64 t.1, .int .i64 t.2] := (by have h := Blk.new (w.alloc (.cells #[.int .i64 s.1.1, .int .i64 s.1.2, .int .i64 s.2] 25)) 23 #[.int .i64 t.1, .int .i64 t.2]; simpa using h)
  have B2n : Blk (((w.alloc (.cells #[.int .i64 s.1.1, .int .i64 s.1.2, .int .i64 s.2] 25)).alloc (.cells #[.int .i64 t.1, .int .i64 t.2] 23)).alloc (.cells #[.int .i64 0, .int .i64 0, .int .i64 0] 25)) (w.heap.size + 2) 25 #[.int .i64 0, .int .i64 0, .int .i64 0] := (by have h := Blk.new ((w.alloc (.cells #[.int .i64 s.1.1, .int .i64 s.1.2, .int .i64 s.2] 25)).alloc (.cells #[.int .i64 t.1, .int .i64 t.2] 23)) 25 #[.int .i64 0, .int .i64 0, .int .i64 0]; simpa using h)
  have B0x := o.blk (t := 25) (cs := #[.int .i64 s.1.1, .int .i64 s.1.2, .int .i64 s.2]) (g := w.heap.size) (by first | exact ((B0n.alloc _).alloc _) | exact Blk.drewN ((B0n.alloc _).alloc _) _ | exact Blk.drew ((B0n.alloc _).alloc _)) (by simp)
  have B1x := o.blk (t := 23) (cs := #[.int .i64 t.1, .int .i64 t.2]) (g := w.heap.size + 1) (by first | exact (B1n.alloc _) | exact Blk.drewN (B1n.alloc _) _ | exact Blk.drew (B1n.alloc _)) (by simp)
  have B2x := o.blk (t := 25) (cs := #[.int .i64 0, .int .i64 0, .int .i64 0]) (g := w.heap.size + 2) (by first | exact B2n | exact Blk.drewN B2n _ | exact Blk.drew B2n) (by simp)
  have O1x : Only [] w w1 := (by first | exact Only.trans (((O0.out.alloc _).alloc _).alloc _) o (by simp) | exact Only.trans (Only.drewN (((O0.out.alloc _).alloc _).alloc _) _) o (by simp) | exact Only.trans (Only.drew (((O0.out.alloc _).alloc _).alloc _)) o (by simp))
  obtain ⟨B0c0, B0c1, B0c2, B0l⟩ := B0x.facts3
  obtain ⟨B1c0, B1c1, B1l⟩ := B1x.facts2
  obtain ⟨B2c0, B2c1, B2c2, B2l⟩ := B2x.facts3
  clear B0n B1n B2n O0 o
  have B0 := Lib.hid B0x; have B1 := Lib.hid B1x; have B2 := Lib.hid B2x; have O1 := Lib.hid O1x
  clear B0x B1x B2x O1x
  go_wp2_with (fail)
  refine (refnever_f hn _).mono ?_
  rintro e w2 ⟨rfl, o⟩
  have B0x := o.blk (t := 25) (cs := #[.int .i64 s.1.1, .int .i64 s.1.2, .int .i64 s.2]) (g := w.heap.size) (by first | exact B0.out | exact Blk.drewN B0.out _ | exact Blk.drew B0.out) (by simp)
  have B1x := o.blk (t := 23) (cs := #[.int .i64 t.1, .int .i64 t.2]) (g := w.heap.size + 1) (by first | exact B1.out | exact Blk.drewN B1.out _ | exact Blk.drew B1.out) (by simp)
  have B2x := o.blk (t := 25) (cs := #[.int .i64 0, .int .i64 0, .int .i64 0]) (g := w.heap.size + 2) (by first | exact B2.out | exact Blk.drewN B2.out _ | exact Blk.drew B2.out) (by simp)
  have O2x : Only [] w w2 := (by first | exact Only.trans O1.out o (by simp) | exact Only.trans (Only.drewN O1.out _) o (by simp) | exact Only.trans (Only.drew O1.out) o (by simp))
  obtain ⟨B0c0, B0c1, B0c2, B0l⟩ := B0x.facts3
  obtain ⟨B1c0, B1c1, B1l⟩ := B1x.facts2
  obtain ⟨B2c0, B2c1, B2c2, B2l⟩ := B2x.facts3
  clear B0 B1 B2 O1 o
  have B0 := Lib.hid B0x; have B1 := Lib.hid B1x; have B2 := Lib.hid B2x; have O2 := Lib.hid O2x
  clear B0x B1x B2x O2x
  go_wp2_with (fail)
  refine (refrightr to HT.out _).mono ?_
  rintro e w3 ⟨rfl, o⟩
  have B0x := o.blk (t := 25) (cs := #[.int .i64 s.1.1, .int .i64 s.1.2, .int .i64 s.2]) (g := w.heap.size) (by first | exact B0.out | exact Blk.drewN B0.out _ | exact Blk.drew B0.out) (by simp)
  have B1x := o.blk (t := 23) (cs := #[.int .i64 t.1, .int .i64 t.2]) (g := w.heap.size + 1) (by first | exact B1.out | exact Blk.drewN B1.out _ | exact Blk.drew B1.out) (by simp)
  have B2x := o.blk (t := 25) (cs := #[.int .i64 0, .int .i64 0, .int .i64 0]) (g := w.heap.size + 2) (by first | exact B2.out | exact Blk.drewN B2.out _ | exact Blk.drew B2.out) (by simp)
  have O3x : Only [] w w3 := (by first | exact Only.trans O2.out o (by simp) | exact Only.trans (Only.drewN O2.out _) o (by simp) | exact Only.trans (Only.drew O2.out) o (by simp))
  obtain ⟨B0c0, B0c1, B0c2, B0l⟩ := B0x.facts3
  obtain ⟨B1c0, B1c1, B1l⟩ := B1x.facts2
  obtain ⟨B2c0, B2c1, B2c2, B2l⟩ := B2x.facts3
  clear B0 B1 B2 O2 o
  have B0 := Lib.hid B0x; have B1 := Lib.hid B1x; have B2 := Lib.hid B2x; have O3 := Lib.hid O3x
  clear B0x B1x B2x O3x
  go_wp2_with (fail)
  refine (refnever_f hq _).mono ?_
  rintro e w4 ⟨rfl, o⟩
  have B0x := o.blk (t := 25) (cs := #[.int .i64 s.1.1, .int .i64 s.1.2, .int .i64 s.2]) (g := w.heap.size) (by first | exact B0.out | exact Blk.drewN B0.out _ | exact Blk.drew B0.out) (by simp)
  have B1x := o.blk (t := 23) (cs := #[.int .i64 t.1, .int .i64 t.2]) (g := w.heap.size + 1) (by first | exact B1.out | exact Blk.drewN B1.out _ | exact Blk.drew B1.out) (by simp)
  have B2x := o.blk (t := 25) (cs := #[.int .i64 0, .int .i64 0, .int .i64 0]) (g := w.heap.size + 2) (by first | exact B2.out | exact Blk.drewN B2.out _ | exact Blk.drew B2.out) (by simp)
  have O4x : Only [] w w4 := (by first | exact Only.trans O3.out o (by simp) | exact Only.trans (Only.drewN O3.out _) o (by simp) | exact Only.trans (Only.drew O3.out) o (by simp))
  obtain ⟨B0c0, B0c1, B0c2, B0l⟩ := B0x.facts3
  obtain ⟨B1c0, B1c1, B1l⟩ := B1x.facts2
  obtain ⟨B2c0, B2c1, B2c2, B2l⟩ := B2x.facts3
  clear B0 B1 B2 O3 o
  have B0 := Lib.hid B0x; have B1 := Lib.hid B1x; have B2 := Lib.hid B2x; have O4 := Lib.hid O4x
  clear B0x B1x B2x O4x
  go_wp2_with (fail)
  refine (refaddr s.1 t ho.1 to HU.out _).mono ?_
  rintro e w5 ⟨rfl, o⟩
  have B0x := o.blk (t := 25) (cs := #[.int .i64 s.1.1, .int .i64 s.1.2, .int .i64 s.2]) (g := w.heap.size) (by first | exact B0.out | exact Blk.drewN B0.out _ | exact Blk.drew B0.out) (by simp)
  have B1x := o.blk (t := 23) (cs := #[.int .i64 t.1, .int .i64 t.2]) (g := w.heap.size + 1) (by first | exact B1.out | exact Blk.drewN B1.out _ | exact Blk.drew B1.out) (by simp)
  have B2x := o.blk (t := 25) (cs := #[.int .i64 0, .int .i64 0, .int .i64 0]) (g := w.heap.size + 2) (by first | exact B2.out | exact Blk.drewN B2.out _ | exact Blk.drew B2.out) (by simp)
  have O5x : Only [] w w5 := (by first | exact Only.trans O4.out o (by simp) | exact Only.trans (Only.drewN O4.out _) o (by simp) | exact Only.trans (Only.drew O4.out) o (by simp))
  obtain ⟨B0c0, B0c1, B0c2, B0l⟩ := B0x.facts3
  obtain ⟨B1c0, B1c1, B1l⟩ := B1x.facts2
  obtain ⟨B2c0, B2c1, B2c2, B2l⟩ := B2x.facts3
  clear B0 B1 B2 O4 o
  have B0 := Lib.hid B0x; have B1 := Lib.hid B1x; have B2 := Lib.hid B2x; have O5 := Lib.hid O5x
  clear B0x B1x B2x O5x
  have fr0 := B2.out.frozen 0
  have fr1 := B2.out.frozen 1
  have fr2 := B2.out.frozen 2
  go_wp2_with (fail)
  exact bodyPost_ret (v := .tuple #[.agg #[.int .i64 m.1, .int .i64 m.2, .int .i64 0], .int .i64 x]) (by simp [results, Tryd.results18, go_sem, B2c0, B2c1, B2c2, World.cell?_alloc_lt, B2l]) rfl ⟨rfl, (only_three O5.out (by simp; try omega) (by simp; try omega) (by simp; try omega) _ _ _).alloc _⟩

theorem refafter_any (s : St) (t : Tm) (ho : s.ok) (to : t.ok) (w : World) : Calls Tryd.prog 18 #[.agg #[.int .i64 s.1.1, .int .i64 s.1.2, .int .i64 s.2], .agg #[.int .i64 t.1, .int .i64 t.2]] w fun e w' => e = .returned (.tuple #[.agg #[.int .i64 (afterT s t).1.1.1, .int .i64 (afterT s t).1.1.2, .int .i64 (afterT s t).1.2], .int .i64 (afterT s t).2]) ∧ Only [] w w' := by
  unfold afterT
  by_cases hr : stR s = true
  · by_cases hn : s = ((1, 0), 0)
    · subst hn; rw [if_neg (fun h => h.2.1 rfl)]; exact refafter_w2 t w
    · have hn2 := stR_fin hr hn
      by_cases ht : t.right = true
      · rw [if_pos ⟨hr, hn, ht⟩]
        by_cases hq : t = (1, 0)
        · subst hq; rw [if_pos rfl]; exact refafter_nv s ho hr hn2 w
        · rw [if_neg hq]
          have hq2 : t.2 ≠ 0 := fun h => hq (right_end ht h)
          by_cases h0 : t.1 = 0
          · rw [if_pos h0]
            have hb := stR_bounds hr
            unfold nextT
            rw [if_pos ⟨hr, hn⟩]
            by_cases hc : s.2 = 1099511627776
            · rw [if_pos hc]; exact refafter_m s t ho hr hn2 to ht hq2 h0 hc w
            · rw [if_neg hc]; exact refafter_k s t ho hr hn2 to ht hq2 h0 hb.1 hb.2 hc w
          · rw [if_neg h0]
            by_cases he : (addT s.1 t).2 = 0
            · rw [if_neg (fun h => h he)]
              have := refafter_a s t ho hr hn2 to ht hq2 h0 (m := (addT s.1 t).1) (x := 0) (Prod.ext rfl he) w
              exact this
            · rw [if_pos he]
              have hb := (add_bad ho.1 to he).1
              have := refafter_a s t ho hr hn2 to ht hq2 h0 (m := (0, 0)) (x := (addT s.1 t).2) (Prod.ext hb rfl) w
              exact this
      · rw [if_neg (fun h => ht h.2.2)]; exact refafter_w3 s t ho hr hn2 to (by simpa using ht) w
  · rw [if_neg (fun h => hr h.1)]; exact refafter_w1 s t ho (by simpa using hr) w
theorem refafterr (s : St) (t : Tm) (ho : s.ok) (to : t.ok) {u : St} {x : Int} (h : afterT s t = (u, x)) (w : World) : Calls Tryd.prog 18 #[.agg #[.int .i64 s.1.1, .int .i64 s.1.2, .int .i64 s.2], .agg #[.int .i64 t.1, .int .i64 t.2]] w fun e w' => e = .returned (.tuple #[.agg #[.int .i64 u.1.1, .int .i64 u.1.2, .int .i64 u.2], .int .i64 x]) ∧ Only [] w w' := by
  have := refafter_any s t ho to w
  rwa [h] at this

/-- the text of a stamp -/
def stX (s : St) : List UInt8 := if stR s = true then (if s.2 = 0 then textT s.1 else textT s.1 ++ [43] ++ Lib.decDigits s.2.toNat) else []
theorem textT_len (t : Tm) (ho : t.ok) : (textT t).length ≤ 1000 := by
  by_cases h : t.right = true
  · rcases right_cases ho h with rfl | ⟨n, d, f⟩
    · decide
    · obtain ⟨_, _, hn, hd⟩ := f.len
      have h1 := decDigits_len n hn
      have h2 := decDigits_len d hd
      have hp := f.pos
      unfold textT
      rw [if_pos h, f.eq]
      simp only
      rw [if_neg (by omega)]
      have e1 : ((n : Int)).toNat = n := rfl
      have e2 : ((d : Int)).toNat = d := rfl
      rw [e1, e2]
      split
      · omega
      · simp; omega
  · unfold textT
    rw [if_neg h]; simp
theorem textr (t : Tm) (ho : t.ok) {l : List UInt8} (h : textT t = l) {w : World} (ht : Tab10 w) :
    Calls Tryd.prog 34 #[.agg #[.int .i64 t.1, .int .i64 t.2]] w fun e w' => e = .returned (.string ⟨l.toArray⟩) ∧ Only [] w w' := by
  have := text_any t ho ht
  rwa [h] at this
theorem reftextr (t : Tm) (ho : t.ok) {l : List UInt8} (h : textT t = l) (w : World) :
    Calls Tryd.prog 36 #[.agg #[.int .i64 t.1, .int .i64 t.2]] w fun e w' => e = .returned (.string ⟨l.toArray⟩) ∧ Only [] w w' := by
  have := reftext_any t ho (w := w)
  rwa [h] at this

set_option maxHeartbeats 1000000 in
theorem sttext_w (s : St) (ho : s.ok) (hr : stR s = false) {w : World} (hw : Tab10 w) :
    Calls Tryd.prog 16 #[.agg #[.int .i64 s.1.1, .int .i64 s.1.2, .int .i64 s.2]] w fun e w' => e = .returned (.string ⟨([] : List UInt8).toArray⟩) ∧ Only [] w w' := by
  have HR := Lib.hid hr
  clear hr
  have HW := Lib.hid hw
  clear hw
  have O0 := Lib.hid (Only.refl [] w)
  go_enter Tryd.func16, Tryd.ntmps16
  go_wp2_with (fail)
  refine (strightr ho HR.out _).mono ?_
  rintro e w1 ⟨rfl, o⟩
  have B0n : Blk (w.alloc (.cells #[.int .i64 s.1.1, .int .i64 s.1.2, .int .i64 s.2] 27)) (w.heap.size) 27 #[.int .i64 s.1.1, .int .i64 s.1.2, .int .i64 s.2] := (by have h := Blk.new w 27 #[.int .i64 s.1.1, .int .i64 s.1.2, .int .i64 s.2]; simpa using h)
  have B0x := o.blk (t := 27) (cs := #[.int .i64 s.1.1, .int .i64 s.1.2, .int .i64 s.2]) (g := w.heap.size) (by first | exact B0n | exact Blk.drewN B0n _ | exact Blk.drew B0n) (by simp)
  have O1x : Only [] w w1 := (by first | exact Only.trans (O0.out.alloc _) o (by simp) | exact Only.trans (Only.drewN (O0.out.alloc _) _) o (by simp) | exact Only.trans (Only.drew (O0.out.alloc _)) o (by simp))
  obtain ⟨B0c0, B0c1, B0c2, B0l⟩ := B0x.facts3
  clear B0n O0 o
  have B0 := Lib.hid B0x; have O1 := Lib.hid O1x
  clear B0x O1x
  go_wp2_with (fail)
  go_ret
  exact ⟨rfl, O1.out⟩

set_option maxHeartbeats 1000000 in
theorem sttext_z (s : St) (ho : s.ok) (hr : stR s = true) (hc : s.2 = 0) {w : World} (hw : Tab10 w) :
    Calls Tryd.prog 16 #[.agg #[.int .i64 s.1.1, .int .i64 s.1.2, .int .i64 s.2]] w fun e w' => e = .returned (.string ⟨(textT s.1).toArray⟩) ∧ Only [] w w' := by
  have HR := Lib.hid hr
  clear hr
  have hc' : (s.2 == 0) = true := by simp; omega
  clear hc
  have HW := Lib.hid hw
  clear hw
  have O0 := Lib.hid (Only.refl [] w)
  go_enter Tryd.func16, Tryd.ntmps16
  go_wp2_with (fail)
  refine (strightr ho HR.out _).mono ?_
  rintro e w1 ⟨rfl, o⟩
  have B0n : Blk (w.alloc (.cells #[.int .i64 s.1.1, .int .i64 s.1.2, .int .i64 s.2] 27)) (w.heap.size) 27 #[.int .i64 s.1.1, .int .i64 s.1.2, .int .i64 s.2] := (by have h := Blk.new w 27 #[.int .i64 s.1.1, .int .i64 s.1.2, .int .i64 s.2]; simpa using h)
  have B0x := o.blk (t := 27) (cs := #[.int .i64 s.1.1, .int .i64 s.1.2, .int .i64 s.2]) (g := w.heap.size) (by first | exact B0n | exact Blk.drewN B0n _ | exact Blk.drew B0n) (by simp)
  have O1x : Only [] w w1 := (by first | exact Only.trans (O0.out.alloc _) o (by simp) | exact Only.trans (Only.drewN (O0.out.alloc _) _) o (by simp) | exact Only.trans (Only.drew (O0.out.alloc _)) o (by simp))
  obtain ⟨B0c0, B0c1, B0c2, B0l⟩ := B0x.facts3
  clear B0n O0 o
  have B0 := Lib.hid B0x; have O1 := Lib.hid O1x
  clear B0x O1x
  go_wp2_with (fail)
  refine (textr s.1 ho.1 rfl (HW.out.only O1.out)).mono ?_
  rintro e w2 ⟨rfl, o⟩
  have B0x := o.blk (t := 27) (cs := #[.int .i64 s.1.1, .int .i64 s.1.2, .int .i64 s.2]) (g := w.heap.size) (by first | exact B0.out | exact Blk.drewN B0.out _ | exact Blk.drew B0.out) (by simp)
  have O2x : Only [] w w2 := (by first | exact Only.trans O1.out o (by simp) | exact Only.trans (Only.drewN O1.out _) o (by simp) | exact Only.trans (Only.drew O1.out) o (by simp))
  obtain ⟨B0c0, B0c1, B0c2, B0l⟩ := B0x.facts3
  clear B0 O1 o
  have B0 := Lib.hid B0x; have O2 := Lib.hid O2x
  clear B0x O2x
  go_wp2_with (fail)
  go_ret
  exact ⟨rfl, O2.out⟩

set_option maxHeartbeats 1000000 in
theorem sttext_p (t : Tm) (n : Nat) (ho : St.ok (t, n)) (hr : stR (t, n) = true) (h0 : n ≠ 0) (hn : n ≤ 1099511627776) {l m : List UInt8} (hl : textT t = l) (hm : Lib.decDigits n = m) (ll : l.length ≤ 1000) (lm : m.length ≤ 20) {w : World} (hw : Tab10 w) :
    Calls Tryd.prog 16 #[.agg #[.int .i64 t.1, .int .i64 t.2, .int .i64 n]] w fun e w' => e = .returned (.string ⟨(l ++ [43] ++ m).toArray⟩) ∧ Only [] w w' := by
  have HR := Lib.hid hr
  clear hr
  have HL := Lib.hid hl
  have HM := Lib.hid hm
  have hc' : ((n : Int) == 0) = false := by simp; omega
  clear hl hm h0
  have HW := Lib.hid hw
  clear hw
  have O0 := Lib.hid (Only.refl [] w)
  go_enter Tryd.func16, Tryd.ntmps16
  go_wp2_with (fail)
  refine (strightr (s := (t, n)) ho HR.out _).mono ?_
  rintro e w1 ⟨rfl, o⟩
  have B0n : Blk (w.alloc (.cells #[.int .i64 t.1, .int .i64 t.2, .int .i64 n] 27)) (w.heap.size) 27 #[.int .i64 t.1, .int .i64 t.2, .int .i64 n] := (by have h := Blk.new w 27 #[.int .i64 t.1, .int .i64 t.2, .int .i64 n]; simpa using h)
  have B0x := o.blk (t := 27) (cs := #[.int .i64 t.1, .int .i64 t.2, .int .i64 n]) (g := w.heap.size) (by first | exact B0n | exact Blk.drewN B0n _ | exact Blk.drew B0n) (by simp)
  have O1x : Only [] w w1 := (by first | exact Only.trans (O0.out.alloc _) o (by simp) | exact Only.trans (Only.drewN (O0.out.alloc _) _) o (by simp) | exact Only.trans (Only.drew (O0.out.alloc _)) o (by simp))
  obtain ⟨B0c0, B0c1, B0c2, B0l⟩ := B0x.facts3
  clear B0n O0 o
  have B0 := Lib.hid B0x; have O1 := Lib.hid O1x
  clear B0x O1x
  go_wp2_with (fail)
  refine wp_region_facts 8 [] (fr := ?fr) (tl := ?tl) (fun i v wv => match i with
    | 0 => v = .pointer (some ⟨w.heap.size, 0, none⟩)
    | 1 => v = .agg #[.int .i64 t.1, .int .i64 t.2]
    | 2 => v = .string ⟨l.toArray⟩
    | 3 => v = .string ⟨(l ++ [43]).toArray⟩
    | 4 => v = .pointer (some ⟨w.heap.size, 2, none⟩)
    | 5 => v = .int .i64 n
    | 6 => v = .string ⟨m.toArray⟩
    | 7 => v = .string ⟨(l ++ [43] ++ m).toArray⟩
    | _ => True) (by kernel_rfl) (by kernel_rfl) (by kernel_rfl) (by kernel_rfl) (by decide) ?htl ?hfr ?stab ?steps ?done
  case htl => simp only [List.drop_succ_cons, List.drop_zero]; rfl
  case hfr => intro vals; simp only [putAll, dstAt, Act.put, List.getElem?_toArray, List.getElem?_cons_zero, List.getElem?_cons_succ, Option.bind_some, List.setIfInBounds_toArray, List.set_cons_zero, List.set_cons_succ]; rfl
  case stab =>
    intro i v wa wb h
    try dsimp only
    split <;> first | exact id | fail
  case steps =>
    refine ⟨?_, ?_, ?_, ?_, ?_, ?_, ?_, ?_, trivial⟩
    · intro vals wr hR hp K hK
      dsimp only at hK ⊢
      clear hp
      unfold RunsOp
      go_simp
      exact hK.out _ _ ⟨_, rfl, Only.refl _ _, rfl⟩
    · intro vals wr hR hp K hK
      dsimp only at hK ⊢
      obtain ⟨p0, -⟩ := hp
      replace p0 := p0 rfl
      dsimp only at p0
      rw [p0] at hK ⊢
      clear p0
      unfold RunsOp
      have tb0 := hR.blk (by first | exact B0.out | exact Blk.drew B0.out) (by simp)
      obtain ⟨c00, c01, c02, cl0⟩ := tb0.facts3
      clear tb0
      go_simp
      exact hK.out _ _ ⟨_, rfl, Only.refl _ _, rfl⟩
    · intro vals wr hR hp K hK
      dsimp only at hK ⊢
      obtain ⟨p1, -⟩ := hp
      replace p1 := p1 rfl
      dsimp only at p1
      rw [p1] at hK ⊢
      clear p1
      unfold RunsOp
      have tt := HW.out.only (O1.out.drew.trans hR (by simp))
      go_simp
      refine (textr t ho.1 HL.out tt).mono ?_
      rintro e w2 ⟨rfl, o2⟩
      exact hK.out _ _ ⟨_, rfl, o2, rfl⟩
    · intro vals wr hR hp K hK
      dsimp only at hK ⊢
      obtain ⟨p2, -⟩ := hp
      replace p2 := p2 rfl
      dsimp only at p2
      obtain p2 := p2
      rw [p2] at hK ⊢
      clear p2
      unfold RunsOp
      have hc : ¬ 9223372036854775807 < l.length + 1 := by omega
      go_simp
      refine hK.out _ _ ⟨_, rfl, Only.refl _ _, ?_⟩
      show Value.string _ = Value.string _
      rw [str_app]; simp
    · intro vals wr hR hp K hK
      dsimp only at hK ⊢
      clear hp
      unfold RunsOp
      go_simp
      exact hK.out _ _ ⟨_, rfl, Only.refl _ _, rfl⟩
    · intro vals wr hR hp K hK
      dsimp only at hK ⊢
      obtain ⟨p4, -⟩ := hp
      replace p4 := p4 rfl
      dsimp only at p4
      rw [p4] at hK ⊢
      clear p4
      unfold RunsOp
      have tb0 := hR.blk (by first | exact B0.out | exact Blk.drew B0.out) (by simp)
      obtain ⟨c00, c01, c02, cl0⟩ := tb0.facts3
      clear tb0
      go_simp
      exact hK.out _ _ ⟨_, rfl, Only.refl _ _, rfl⟩
    · intro vals wr hR hp K hK
      dsimp only at hK ⊢
      obtain ⟨p5, -, -⟩ := hp
      replace p5 := p5 rfl
      dsimp only at p5
      rw [p5] at hK ⊢
      clear p5
      unfold RunsOp
      have tt := HW.out.only (O1.out.drew.trans hR (by simp))
      go_simp
      refine (itoa_nat n (by omega) tt).mono ?_
      rintro e w2 ⟨rfl, o2⟩
      rw [HM.out]
      exact hK.out _ _ ⟨_, rfl, o2, rfl⟩
    · intro vals wr hR hp K hK
      dsimp only at hK ⊢
      obtain ⟨p3, p6, -⟩ := hp
      replace p3 := p3 rfl
      replace p6 := p6 rfl
      dsimp only at p3 p6
      obtain p3 := p3
      obtain p6 := p6
      rw [p3, p6] at hK ⊢
      clear p3 p6
      unfold RunsOp
      have hc : ¬ 9223372036854775807 < l.length + 1 + m.length := by omega
      go_simp
      refine hK.out _ _ ⟨_, rfl, Only.refl _ _, ?_⟩
      show Value.string _ = Value.string _
      rw [str_app]; simp
  intro vals w2 hR hF
  have f7 : (vals 7) = .string ⟨(l ++ [43] ++ m).toArray⟩ := hF 7 (by decide)
  rw [f7]
  clear hF f7
  have B0x := hR.blk (t := 27) (cs := #[.int .i64 t.1, .int .i64 t.2, .int .i64 n]) (g := w.heap.size) (by first | exact B0.out | exact Blk.drewN B0.out _ | exact Blk.drew B0.out) (by simp)
  have O2x : Only [] w w2 := (by first | exact Only.trans O1.out hR (by simp) | exact Only.trans (Only.drewN O1.out _) hR (by simp) | exact Only.trans (Only.drew O1.out) hR (by simp))
  obtain ⟨B0c0, B0c1, B0c2, B0l⟩ := B0x.facts3
  clear B0 O1 hR
  have B0 := Lib.hid B0x; have O2 := Lib.hid O2x
  clear B0x O2x
  go_wp2_with (fail)
  go_ret
  exact ⟨rfl, O2.out⟩

theorem sttext_any (s : St) (ho : s.ok) {w : World} (hw : Tab10 w) : Calls Tryd.prog 16 #[.agg #[.int .i64 s.1.1, .int .i64 s.1.2, .int .i64 s.2]] w fun e w' => e = .returned (.string ⟨(stX s).toArray⟩) ∧ Only [] w w' := by
  unfold stX
  by_cases hr : stR s = true
  · rw [if_pos hr]
    by_cases hc : s.2 = 0
    · rw [if_pos hc]; exact sttext_z s ho hr hc hw
    · rw [if_neg hc]
      have hb := stR_bounds hr
      obtain ⟨t, c⟩ := s
      simp only at hc hb
      obtain ⟨n, rfl⟩ := Int.eq_ofNat_of_zero_le hb.1
      exact sttext_p t n ho hr (by omega) (by omega) rfl rfl (textT_len t ho.1) (decDigits_len n (by omega)) hw
  · rw [if_neg hr]; exact sttext_w s ho (by simpa using hr) hw
theorem sttextr (s : St) (ho : s.ok) {l : List UInt8} (h : stX s = l) {w : World} (hw : Tab10 w) : Calls Tryd.prog 16 #[.agg #[.int .i64 s.1.1, .int .i64 s.1.2, .int .i64 s.2]] w fun e w' => e = .returned (.string ⟨l.toArray⟩) ∧ Only [] w w' := by
  have := sttext_any s ho hw
  rwa [h] at this

set_option maxHeartbeats 1000000 in
theorem refsttext_w (s : St) (ho : s.ok) (hr : stR s = false) {w : World} :
    Calls Tryd.prog 17 #[.agg #[.int .i64 s.1.1, .int .i64 s.1.2, .int .i64 s.2]] w fun e w' => e = .returned (.string ⟨([] : List UInt8).toArray⟩) ∧ Only [] w w' := by
  have HR := Lib.hid hr
  clear hr
  have O0 := Lib.hid (Only.refl [] w)
  go_enter Tryd.func17, Tryd.ntmps17
  go_wp2_with (fail)
  refine (refstr ho HR.out _).mono ?_
  rintro e w1 ⟨rfl, o⟩
  have B0n : Blk (w.alloc (.cells #[.int .i64 s.1.1, .int .i64 s.1.2, .int .i64 s.2] 25)) (w.heap.size) 25 #[.int .i64 s.1.1, .int .i64 s.1.2, .int .i64 s.2] := (by have h := Blk.new w 25 #[.int .i64 s.1.1, .int .i64 s.1.2, .int .i64 s.2]; simpa using h)
  have B0x := o.blk (t := 25) (cs := #[.int .i64 s.1.1, .int .i64 s.1.2, .int .i64 s.2]) (g := w.heap.size) (by first | exact B0n | exact Blk.drewN B0n _ | exact Blk.drew B0n) (by simp)
  have O1x : Only [] w w1 := (by first | exact Only.trans (O0.out.alloc _) o (by simp) | exact Only.trans (Only.drewN (O0.out.alloc _) _) o (by simp) | exact Only.trans (Only.drew (O0.out.alloc _)) o (by simp))
  obtain ⟨B0c0, B0c1, B0c2, B0l⟩ := B0x.facts3
  clear B0n O0 o
  have B0 := Lib.hid B0x; have O1 := Lib.hid O1x
  clear B0x O1x
  go_wp2_with (fail)
  go_ret
  exact ⟨rfl, O1.out⟩

set_option maxHeartbeats 1000000 in
theorem refsttext_z (s : St) (ho : s.ok) (hr : stR s = true) (hc : s.2 = 0) {w : World} :
    Calls Tryd.prog 17 #[.agg #[.int .i64 s.1.1, .int .i64 s.1.2, .int .i64 s.2]] w fun e w' => e = .returned (.string ⟨(textT s.1).toArray⟩) ∧ Only [] w w' := by
  have HR := Lib.hid hr
  clear hr
  have hc' : (s.2 == 0) = true := by simp; omega
  clear hc
  have O0 := Lib.hid (Only.refl [] w)
  go_enter Tryd.func17, Tryd.ntmps17
  go_wp2_with (fail)
  refine (refstr ho HR.out _).mono ?_
  rintro e w1 ⟨rfl, o⟩
  have B0n : Blk (w.alloc (.cells #[.int .i64 s.1.1, .int .i64 s.1.2, .int .i64 s.2] 25)) (w.heap.size) 25 #[.int .i64 s.1.1, .int .i64 s.1.2, .int .i64 s.2] := (by have h := Blk.new w 25 #[.int .i64 s.1.1, .int .i64 s.1.2, .int .i64 s.2]; simpa using h)
  have B0x := o.blk (t := 25) (cs := #[.int .i64 s.1.1, .int .i64 s.1.2, .int .i64 s.2]) (g := w.heap.size) (by first | exact B0n | exact Blk.drewN B0n _ | exact Blk.drew B0n) (by simp)
  have O1x : Only [] w w1 := (by first | exact Only.trans (O0.out.alloc _) o (by simp) | exact Only.trans (Only.drewN (O0.out.alloc _) _) o (by simp) | exact Only.trans (Only.drew (O0.out.alloc _)) o (by simp))
  obtain ⟨B0c0, B0c1, B0c2, B0l⟩ := B0x.facts3
  clear B0n O0 o
  have B0 := Lib.hid B0x; have O1 := Lib.hid O1x
  clear B0x O1x
  go_wp2_with (fail)
  refine (reftextr s.1 ho.1 rfl _).mono ?_
  rintro e w2 ⟨rfl, o⟩
  have B0x := o.blk (t := 25) (cs := #[.int .i64 s.1.1, .int .i64 s.1.2, .int .i64 s.2]) (g := w.heap.size) (by first | exact B0.out | exact Blk.drewN B0.out _ | exact Blk.drew B0.out) (by simp)
  have O2x : Only [] w w2 := (by first | exact Only.trans O1.out o (by simp) | exact Only.trans (Only.drewN O1.out _) o (by simp) | exact Only.trans (Only.drew O1.out) o (by simp))
  obtain ⟨B0c0, B0c1, B0c2, B0l⟩ := B0x.facts3
  clear B0 O1 o
  have B0 := Lib.hid B0x; have O2 := Lib.hid O2x
  clear B0x O2x
  go_wp2_with (fail)
  go_ret
  exact ⟨rfl, O2.out⟩

set_option maxHeartbeats 1000000 in
theorem refsttext_p (t : Tm) (n : Nat) (ho : St.ok (t, n)) (hr : stR (t, n) = true) (h0 : n ≠ 0) (hn : n ≤ 1099511627776) {l m : List UInt8} (hl : textT t = l) (hm : Lib.decDigits n = m) (ll : l.length ≤ 1000) (lm : m.length ≤ 20) {w : World} :
    Calls Tryd.prog 17 #[.agg #[.int .i64 t.1, .int .i64 t.2, .int .i64 n]] w fun e w' => e = .returned (.string ⟨(l ++ [43] ++ m).toArray⟩) ∧ Only [] w w' := by
  have HR := Lib.hid hr
  clear hr
  have HL := Lib.hid hl
  have HM := Lib.hid hm
  have hc' : ((n : Int) == 0) = false := by simp; omega
  clear hl hm h0
  have O0 := Lib.hid (Only.refl [] w)
  go_enter Tryd.func17, Tryd.ntmps17
  go_wp2_with (fail)
  refine (refstr (s := (t, n)) ho HR.out _).mono ?_
  rintro e w1 ⟨rfl, o⟩
  have B0n : Blk (w.alloc (.cells #[.int .i64 t.1, .int .i64 t.2, .int .i64 n] 25)) (w.heap.size) 25 #[.int .i64 t.1, .int .i64 t.2, .int .i64 n] := (by have h := Blk.new w 25 #[.int .i64 t.1, .int .i64 t.2, .int .i64 n]; simpa using h)
  have B0x := o.blk (t := 25) (cs := #[.int .i64 t.1, .int .i64 t.2, .int .i64 n]) (g := w.heap.size) (by first | exact B0n | exact Blk.drewN B0n _ | exact Blk.drew B0n) (by simp)
  have O1x : Only [] w w1 := (by first | exact Only.trans (O0.out.alloc _) o (by simp) | exact Only.trans (Only.drewN (O0.out.alloc _) _) o (by simp) | exact Only.trans (Only.drew (O0.out.alloc _)) o (by simp))
  obtain ⟨B0c0, B0c1, B0c2, B0l⟩ := B0x.facts3
  clear B0n O0 o
  have B0 := Lib.hid B0x; have O1 := Lib.hid O1x
  clear B0x O1x
  go_wp2_with (fail)
  refine wp_region_facts 8 [] (fr := ?fr) (tl := ?tl) (fun i v wv => match i with
    | 0 => v = .pointer (some ⟨w.heap.size, 0, none⟩)
    | 1 => v = .agg #[.int .i64 t.1, .int .i64 t.2]
    | 2 => v = .string ⟨l.toArray⟩
    | 3 => v = .string ⟨(l ++ [43]).toArray⟩
    | 4 => v = .pointer (some ⟨w.heap.size, 2, none⟩)
    | 5 => v = .int .i64 n
    | 6 => v = .string ⟨m.toArray⟩
    | 7 => v = .string ⟨(l ++ [43] ++ m).toArray⟩
    | _ => True) (by kernel_rfl) (by kernel_rfl) (by kernel_rfl) (by kernel_rfl) (by decide) ?htl ?hfr ?stab ?steps ?done
  case htl => simp only [List.drop_succ_cons, List.drop_zero]; rfl
  case hfr => intro vals; simp only [putAll, dstAt, Act.put, List.getElem?_toArray, List.getElem?_cons_zero, List.getElem?_cons_succ, Option.bind_some, List.setIfInBounds_toArray, List.set_cons_zero, List.set_cons_succ]; rfl
  case stab =>
    intro i v wa wb h
    try dsimp only
    split <;> first | exact id | fail
  case steps =>
    refine ⟨?_, ?_, ?_, ?_, ?_, ?_, ?_, ?_, trivial⟩
    · intro vals wr hR hp K hK
      dsimp only at hK ⊢
      clear hp
      unfold RunsOp
      go_simp
      exact hK.out _ _ ⟨_, rfl, Only.refl _ _, rfl⟩
    · intro vals wr hR hp K hK
      dsimp only at hK ⊢
      obtain ⟨p0, -⟩ := hp
      replace p0 := p0 rfl
      dsimp only at p0
      rw [p0] at hK ⊢
      clear p0
      unfold RunsOp
      have tb0 := hR.blk (by first | exact B0.out | exact Blk.drew B0.out) (by simp)
      obtain ⟨c00, c01, c02, cl0⟩ := tb0.facts3
      clear tb0
      go_simp
      exact hK.out _ _ ⟨_, rfl, Only.refl _ _, rfl⟩
    · intro vals wr hR hp K hK
      dsimp only at hK ⊢
      obtain ⟨p1, -⟩ := hp
      replace p1 := p1 rfl
      dsimp only at p1
      rw [p1] at hK ⊢
      clear p1
      unfold RunsOp
      go_simp
      refine (reftextr t ho.1 HL.out _).mono ?_
      rintro e w2 ⟨rfl, o2⟩
      exact hK.out _ _ ⟨_, rfl, o2, rfl⟩
    · intro vals wr hR hp K hK
      dsimp only at hK ⊢
      obtain ⟨p2, -⟩ := hp
      replace p2 := p2 rfl
      dsimp only at p2
      obtain p2 := p2
      rw [p2] at hK ⊢
      clear p2
      unfold RunsOp
      have hc : ¬ 9223372036854775807 < l.length + 1 := by omega
      go_simp
      refine hK.out _ _ ⟨_, rfl, Only.refl _ _, ?_⟩
      show Value.string _ = Value.string _
      rw [str_app]; simp
    · intro vals wr hR hp K hK
      dsimp only at hK ⊢
      clear hp
      unfold RunsOp
      go_simp
      exact hK.out _ _ ⟨_, rfl, Only.refl _ _, rfl⟩
    · intro vals wr hR hp K hK
      dsimp only at hK ⊢
      obtain ⟨p4, -⟩ := hp
      replace p4 := p4 rfl
      dsimp only at p4
      rw [p4] at hK ⊢
      clear p4
      unfold RunsOp
      have tb0 := hR.blk (by first | exact B0.out | exact Blk.drew B0.out) (by simp)
      obtain ⟨c00, c01, c02, cl0⟩ := tb0.facts3
      clear tb0
      go_simp
      exact hK.out _ _ ⟨_, rfl, Only.refl _ _, rfl⟩
    · intro vals wr hR hp K hK
      dsimp only at hK ⊢
      obtain ⟨p5, -, -⟩ := hp
      replace p5 := p5 rfl
      dsimp only at p5
      rw [p5] at hK ⊢
      clear p5
      unfold RunsOp
      go_simp
      refine (dec_any n (by omega) _).mono ?_
      rintro e w2 ⟨rfl, o2⟩
      rw [HM.out]
      exact hK.out _ _ ⟨_, rfl, o2, rfl⟩
    · intro vals wr hR hp K hK
      dsimp only at hK ⊢
      obtain ⟨p3, p6, -⟩ := hp
      replace p3 := p3 rfl
      replace p6 := p6 rfl
      dsimp only at p3 p6
      obtain p3 := p3
      obtain p6 := p6
      rw [p3, p6] at hK ⊢
      clear p3 p6
      unfold RunsOp
      have hc : ¬ 9223372036854775807 < l.length + 1 + m.length := by omega
      go_simp
      refine hK.out _ _ ⟨_, rfl, Only.refl _ _, ?_⟩
      show Value.string _ = Value.string _
      rw [str_app]; simp
  intro vals w2 hR hF
  have f7 : (vals 7) = .string ⟨(l ++ [43] ++ m).toArray⟩ := hF 7 (by decide)
  rw [f7]
  clear hF f7
  have B0x := hR.blk (t := 25) (cs := #[.int .i64 t.1, .int .i64 t.2, .int .i64 n]) (g := w.heap.size) (by first | exact B0.out | exact Blk.drewN B0.out _ | exact Blk.drew B0.out) (by simp)
  have O2x : Only [] w w2 := (by first | exact Only.trans O1.out hR (by simp) | exact Only.trans (Only.drewN O1.out _) hR (by simp) | exact Only.trans (Only.drew O1.out) hR (by simp))
  obtain ⟨B0c0, B0c1, B0c2, B0l⟩ := B0x.facts3
  clear B0 O1 hR
  have B0 := Lib.hid B0x; have O2 := Lib.hid O2x
  clear B0x O2x
  go_wp2_with (fail)
  go_ret
  exact ⟨rfl, O2.out⟩

theorem refsttext_any (s : St) (ho : s.ok) {w : World} : Calls Tryd.prog 17 #[.agg #[.int .i64 s.1.1, .int .i64 s.1.2, .int .i64 s.2]] w fun e w' => e = .returned (.string ⟨(stX s).toArray⟩) ∧ Only [] w w' := by
  unfold stX
  by_cases hr : stR s = true
  · rw [if_pos hr]
    by_cases hc : s.2 = 0
    · rw [if_pos hc]; exact refsttext_z s ho hr hc
    · rw [if_neg hc]
      have hb := stR_bounds hr
      obtain ⟨t, c⟩ := s
      simp only at hc hb
      obtain ⟨n, rfl⟩ := Int.eq_ofNat_of_zero_le hb.1
      exact refsttext_p t n ho hr (by omega) (by omega) rfl rfl (textT_len t ho.1) (decDigits_len n (by omega))
  · rw [if_neg hr]; exact refsttext_w s ho (by simpa using hr)
theorem refsttextr (s : St) (ho : s.ok) {l : List UInt8} (h : stX s = l) {w : World} : Calls Tryd.prog 17 #[.agg #[.int .i64 s.1.1, .int .i64 s.1.2, .int .i64 s.2]] w fun e w' => e = .returned (.string ⟨l.toArray⟩) ∧ Only [] w w' := by
  have := refsttext_any s ho (w := w)
  rwa [h] at this

end Go.Proofs.YtoefekgfklillaaDoor
