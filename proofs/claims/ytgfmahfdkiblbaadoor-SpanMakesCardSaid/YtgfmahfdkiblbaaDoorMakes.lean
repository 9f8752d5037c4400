/- SpanMakes: the law's own walk. -/
import Derived.Test.YtgfmahfdkiblbaaDoorRefMake
namespace Go.Proofs.YtgfmahfdkiblbaaDoor
open Go.RowKit Go.Kx
set_option maxRecDepth 20000

theorem maker (n d : Int) (hi : I64 n) (hj : I64 d) {t : Tm} {x : Int} (h : makeT n d = (t, x)) (w : World) :
    Calls Tryd.prog 18 #[.int .i64 n, .int .i64 d] w fun e w' => e = .returned (.tuple #[.agg #[.int .i64 t.1, .int .i64 t.2], .int .i64 x]) ∧ Only [] w w' := by
  have := make_any n d hi hj w
  rwa [makeV_eq, h] at this
theorem wholer (n : Int) (hi : I64 n) {t : Tm} {x : Int} (h : makeT n 1 = (t, x)) (w : World) :
    Calls Tryd.prog 20 #[.int .i64 n] w fun e w' => e = .returned (.tuple #[.agg #[.int .i64 t.1, .int .i64 t.2], .int .i64 x]) ∧ Only [] w w' := by
  have := whole_any n hi w
  rwa [makeV_eq, h] at this
theorem refmaker (n d : Int) (hi : I64 n) (hj : I64 d) {t : Tm} {x : Int} (h : makeT n d = (t, x)) (w : World) :
    Calls Tryd.prog 19 #[.int .i64 n, .int .i64 d] w fun e w' => e = .returned (.tuple #[.agg #[.int .i64 t.1, .int .i64 t.2], .int .i64 x]) ∧ Only [] w w' := by
  have := refmake_any n d hi hj w
  rwa [h] at this
theorem make_right {n d : Int} {t : Tm} (h : makeT n d = (t, 0)) : t.right = true ∧ t.ok := by
  unfold makeT at h
  split at h
  · simp at h
  · split at h
    · simp at h
    · rcases red_fin n.natAbs (show 0 < d.natAbs by omega) with ⟨t', x, y, e, ft, _⟩ | e
      · rw [e] at h
        simp at h
        subst h
        exact ⟨ft.right, ft.ok⟩
      · rw [e] at h; simp at h
theorem i1 : I64 1 := by unfold I64; omega

set_option maxHeartbeats 2000000 in
theorem makes_ok (n d : Int) (hi : I64 n) (hj : I64 d) {t u : Tm} {f : Int} (h1 : makeT n d = (t, 0)) (h2 : makeT n 1 = (u, f)) (ht : t.right = true) (ho : t.ok) (w : World) :
    Calls Tryd.prog 4 #[.int .i64 n, .int .i64 d] w fun r w' => r = .returned (.bool true) ∧ Only [] w w' := by
  have HT := Lib.hid ht
  clear ht
  have H1 := Lib.hid h1
  have H2 := Lib.hid h2
  clear h1 h2
  have O0 := Lib.hid (Only.refl [] w)
  go_enter Tryd.func4, Tryd.ntmps4
  go_wp2_with (fail)
  refine (maker n d hi hj H1.out _).mono ?_
  rintro e w1 ⟨rfl, o⟩
  have O1 := Lib.hid o
  clear o O0
  go_wp2_with (fail)
  refine (refmaker n d hi hj H1.out _).mono ?_
  rintro e w2 ⟨rfl, o⟩
  have B0n : Blk (w1.alloc (.cells #[.int .i64 t.1, .int .i64 t.2] 23)) (w1.heap.size) 23 #[.int .i64 t.1, .int .i64 t.2] := (by have h := Blk.new w1 23 #[.int .i64 t.1, .int .i64 t.2]; simpa using h)
  have B0x := o.blk (t := 23) (cs := #[.int .i64 t.1, .int .i64 t.2]) (g := w1.heap.size) (by first | exact B0n | exact Blk.drewN B0n _ | exact Blk.drew B0n) (by simp)
  have O2x : Only [] w w2 := (by first | exact Only.trans (O1.out.alloc _) o (by simp) | exact Only.trans (Only.drewN (O1.out.alloc _) _) o (by simp) | exact Only.trans (Only.drew (O1.out.alloc _)) o (by simp))
  obtain ⟨B0c0, B0c1, B0l⟩ := B0x.facts2
  clear B0n O1 o
  have B0 := Lib.hid B0x; have O2 := Lib.hid O2x
  clear B0x O2x
  go_wp2_with (fail)
  refine (wholer n hi H2.out _).mono ?_
  rintro e w3 ⟨rfl, o⟩
  have B1n : Blk (w2.alloc (.cells #[.int .i64 t.1, .int .i64 t.2] 23)) (w2.heap.size) 23 #[.int .i64 t.1, .int .i64 t.2] := (by have h := Blk.new w2 23 #[.int .i64 t.1, .int .i64 t.2]; simpa using h)
  have B0x := o.blk (t := 23) (cs := #[.int .i64 t.1, .int .i64 t.2]) (g := w1.heap.size) (by first | exact (B0.out.alloc _) | exact Blk.drewN (B0.out.alloc _) _ | exact Blk.drew (B0.out.alloc _)) (by simp)
  have B1x := o.blk (t := 23) (cs := #[.int .i64 t.1, .int .i64 t.2]) (g := w2.heap.size) (by first | exact B1n | exact Blk.drewN B1n _ | exact Blk.drew B1n) (by simp)
  have O3x : Only [] w w3 := (by first | exact Only.trans (O2.out.alloc _) o (by simp) | exact Only.trans (Only.drewN (O2.out.alloc _) _) o (by simp) | exact Only.trans (Only.drew (O2.out.alloc _)) o (by simp))
  obtain ⟨B0c0, B0c1, B0l⟩ := B0x.facts2
  obtain ⟨B1c0, B1c1, B1l⟩ := B1x.facts2
  clear B0 B1n O2 o
  have B0 := Lib.hid B0x; have B1 := Lib.hid B1x; have O3 := Lib.hid O3x
  clear B0x B1x O3x
  go_wp2_with (fail)
  refine (refmaker n 1 hi i1 H2.out _).mono ?_
  rintro e w4 ⟨rfl, o⟩
  have B2n : Blk (w3.alloc (.cells #[.int .i64 u.1, .int .i64 u.2] 23)) (w3.heap.size) 23 #[.int .i64 u.1, .int .i64 u.2] := (by have h := Blk.new w3 23 #[.int .i64 u.1, .int .i64 u.2]; simpa using h)
  have B0x := o.blk (t := 23) (cs := #[.int .i64 t.1, .int .i64 t.2]) (g := w1.heap.size) (by first | exact (B0.out.alloc _) | exact Blk.drewN (B0.out.alloc _) _ | exact Blk.drew (B0.out.alloc _)) (by simp)
  have B1x := o.blk (t := 23) (cs := #[.int .i64 t.1, .int .i64 t.2]) (g := w2.heap.size) (by first | exact (B1.out.alloc _) | exact Blk.drewN (B1.out.alloc _) _ | exact Blk.drew (B1.out.alloc _)) (by simp)
  have B2x := o.blk (t := 23) (cs := #[.int .i64 u.1, .int .i64 u.2]) (g := w3.heap.size) (by first | exact B2n | exact Blk.drewN B2n _ | exact Blk.drew B2n) (by simp)
  have O4x : Only [] w w4 := (by first | exact Only.trans (O3.out.alloc _) o (by simp) | exact Only.trans (Only.drewN (O3.out.alloc _) _) o (by simp) | exact Only.trans (Only.drew (O3.out.alloc _)) o (by simp))
  obtain ⟨B0c0, B0c1, B0l⟩ := B0x.facts2
  obtain ⟨B1c0, B1c1, B1l⟩ := B1x.facts2
  obtain ⟨B2c0, B2c1, B2l⟩ := B2x.facts2
  clear B0 B1 B2n O3 o
  have B0 := Lib.hid B0x; have B1 := Lib.hid B1x; have B2 := Lib.hid B2x; have O4 := Lib.hid O4x
  clear B0x B1x B2x O4x
  go_wp2_with (fail)
  refine (awake_any _).mono ?_
  rintro e w5 ⟨rfl, o⟩
  have B3n : Blk (w4.alloc (.cells #[.int .i64 u.1, .int .i64 u.2] 23)) (w4.heap.size) 23 #[.int .i64 u.1, .int .i64 u.2] := (by have h := Blk.new w4 23 #[.int .i64 u.1, .int .i64 u.2]; simpa using h)
  have B0x := o.blk (t := 23) (cs := #[.int .i64 t.1, .int .i64 t.2]) (g := w1.heap.size) (by first | exact (B0.out.alloc _) | exact Blk.drewN (B0.out.alloc _) _ | exact Blk.drew (B0.out.alloc _)) (by simp)
  have B1x := o.blk (t := 23) (cs := #[.int .i64 t.1, .int .i64 t.2]) (g := w2.heap.size) (by first | exact (B1.out.alloc _) | exact Blk.drewN (B1.out.alloc _) _ | exact Blk.drew (B1.out.alloc _)) (by simp)
  have B2x := o.blk (t := 23) (cs := #[.int .i64 u.1, .int .i64 u.2]) (g := w3.heap.size) (by first | exact (B2.out.alloc _) | exact Blk.drewN (B2.out.alloc _) _ | exact Blk.drew (B2.out.alloc _)) (by simp)
  have B3x := o.blk (t := 23) (cs := #[.int .i64 u.1, .int .i64 u.2]) (g := w4.heap.size) (by first | exact B3n | exact Blk.drewN B3n _ | exact Blk.drew B3n) (by simp)
  have O5x : Only [] w w5 := (by first | exact Only.trans (O4.out.alloc _) o (by simp) | exact Only.trans (Only.drewN (O4.out.alloc _) _) o (by simp) | exact Only.trans (Only.drew (O4.out.alloc _)) o (by simp))
  obtain ⟨B0c0, B0c1, B0l⟩ := B0x.facts2
  obtain ⟨B1c0, B1c1, B1l⟩ := B1x.facts2
  obtain ⟨B2c0, B2c1, B2l⟩ := B2x.facts2
  obtain ⟨B3c0, B3c1, B3l⟩ := B3x.facts2
  clear B0 B1 B2 B3n O4 o
  have B0 := Lib.hid B0x; have B1 := Lib.hid B1x; have B2 := Lib.hid B2x; have B3 := Lib.hid B3x; have O5 := Lib.hid O5x
  clear B0x B1x B2x B3x O5x
  go_wp2_with (fail)
  refine (right_t ho.1 ho.2 HT.out _).mono ?_
  rintro e w6 ⟨rfl, o⟩
  have B0x := o.blk (t := 23) (cs := #[.int .i64 t.1, .int .i64 t.2]) (g := w1.heap.size) (by first | exact B0.out | exact Blk.drewN B0.out _ | exact Blk.drew B0.out) (by simp)
  have B1x := o.blk (t := 23) (cs := #[.int .i64 t.1, .int .i64 t.2]) (g := w2.heap.size) (by first | exact B1.out | exact Blk.drewN B1.out _ | exact Blk.drew B1.out) (by simp)
  have B2x := o.blk (t := 23) (cs := #[.int .i64 u.1, .int .i64 u.2]) (g := w3.heap.size) (by first | exact B2.out | exact Blk.drewN B2.out _ | exact Blk.drew B2.out) (by simp)
  have B3x := o.blk (t := 23) (cs := #[.int .i64 u.1, .int .i64 u.2]) (g := w4.heap.size) (by first | exact B3.out | exact Blk.drewN B3.out _ | exact Blk.drew B3.out) (by simp)
  have O6x : Only [] w w6 := (by first | exact Only.trans O5.out o (by simp) | exact Only.trans (Only.drewN O5.out _) o (by simp) | exact Only.trans (Only.drew O5.out) o (by simp))
  obtain ⟨B0c0, B0c1, B0l⟩ := B0x.facts2
  obtain ⟨B1c0, B1c1, B1l⟩ := B1x.facts2
  obtain ⟨B2c0, B2c1, B2l⟩ := B2x.facts2
  obtain ⟨B3c0, B3c1, B3l⟩ := B3x.facts2
  clear B0 B1 B2 B3 O5 o
  have B0 := Lib.hid B0x; have B1 := Lib.hid B1x; have B2 := Lib.hid B2x; have B3 := Lib.hid B3x; have O6 := Lib.hid O6x
  clear B0x B1x B2x B3x O6x
  go_wp2_with (fail)
  go_ret
  exact ⟨by first | rfl | simp, O6.out⟩

set_option maxHeartbeats 2000000 in
theorem makes_e (n d : Int) (hi : I64 n) (hj : I64 d) {t u : Tm} {e f : Int} (h1 : makeT n d = (t, e)) (h2 : makeT n 1 = (u, f)) (he : e ≠ 0) (w : World) :
    Calls Tryd.prog 4 #[.int .i64 n, .int .i64 d] w fun r w' => r = .returned (.bool true) ∧ Only [] w w' := by
  have he' : (e != 0) = true := by simpa using he
  clear he
  have H1 := Lib.hid h1
  have H2 := Lib.hid h2
  clear h1 h2
  have O0 := Lib.hid (Only.refl [] w)
  go_enter Tryd.func4, Tryd.ntmps4
  go_wp2_with (fail)
  refine (maker n d hi hj H1.out _).mono ?_
  rintro e w1 ⟨rfl, o⟩
  have O1 := Lib.hid o
  clear o O0
  go_wp2_with (fail)
  refine (refmaker n d hi hj H1.out _).mono ?_
  rintro e w2 ⟨rfl, o⟩
  have B0n : Blk (w1.alloc (.cells #[.int .i64 t.1, .int .i64 t.2] 23)) (w1.heap.size) 23 #[.int .i64 t.1, .int .i64 t.2] := (by have h := Blk.new w1 23 #[.int .i64 t.1, .int .i64 t.2]; simpa using h)
  have B0x := o.blk (t := 23) (cs := #[.int .i64 t.1, .int .i64 t.2]) (g := w1.heap.size) (by first | exact B0n | exact Blk.drewN B0n _ | exact Blk.drew B0n) (by simp)
  have O2x : Only [] w w2 := (by first | exact Only.trans (O1.out.alloc _) o (by simp) | exact Only.trans (Only.drewN (O1.out.alloc _) _) o (by simp) | exact Only.trans (Only.drew (O1.out.alloc _)) o (by simp))
  obtain ⟨B0c0, B0c1, B0l⟩ := B0x.facts2
  clear B0n O1 o
  have B0 := Lib.hid B0x; have O2 := Lib.hid O2x
  clear B0x O2x
  go_wp2_with (fail)
  refine (wholer n hi H2.out _).mono ?_
  rintro e w3 ⟨rfl, o⟩
  have B1n : Blk (w2.alloc (.cells #[.int .i64 t.1, .int .i64 t.2] 23)) (w2.heap.size) 23 #[.int .i64 t.1, .int .i64 t.2] := (by have h := Blk.new w2 23 #[.int .i64 t.1, .int .i64 t.2]; simpa using h)
  have B0x := o.blk (t := 23) (cs := #[.int .i64 t.1, .int .i64 t.2]) (g := w1.heap.size) (by first | exact (B0.out.alloc _) | exact Blk.drewN (B0.out.alloc _) _ | exact Blk.drew (B0.out.alloc _)) (by simp)
  have B1x := o.blk (t := 23) (cs := #[.int .i64 t.1, .int .i64 t.2]) (g := w2.heap.size) (by first | exact B1n | exact Blk.drewN B1n _ | exact Blk.drew B1n) (by simp)
  have O3x : Only [] w w3 := (by first | exact Only.trans (O2.out.alloc _) o (by simp) | exact Only.trans (Only.drewN (O2.out.alloc _) _) o (by simp) | exact Only.trans (Only.drew (O2.out.alloc _)) o (by simp))
  obtain ⟨B0c0, B0c1, B0l⟩ := B0x.facts2
  obtain ⟨B1c0, B1c1, B1l⟩ := B1x.facts2
  clear B0 B1n O2 o
  have B0 := Lib.hid B0x; have B1 := Lib.hid B1x; have O3 := Lib.hid O3x
  clear B0x B1x O3x
  go_wp2_with (fail)
  refine (refmaker n 1 hi i1 H2.out _).mono ?_
  rintro e w4 ⟨rfl, o⟩
  have B2n : Blk (w3.alloc (.cells #[.int .i64 u.1, .int .i64 u.2] 23)) (w3.heap.size) 23 #[.int .i64 u.1, .int .i64 u.2] := (by have h := Blk.new w3 23 #[.int .i64 u.1, .int .i64 u.2]; simpa using h)
  have B0x := o.blk (t := 23) (cs := #[.int .i64 t.1, .int .i64 t.2]) (g := w1.heap.size) (by first | exact (B0.out.alloc _) | exact Blk.drewN (B0.out.alloc _) _ | exact Blk.drew (B0.out.alloc _)) (by simp)
  have B1x := o.blk (t := 23) (cs := #[.int .i64 t.1, .int .i64 t.2]) (g := w2.heap.size) (by first | exact (B1.out.alloc _) | exact Blk.drewN (B1.out.alloc _) _ | exact Blk.drew (B1.out.alloc _)) (by simp)
  have B2x := o.blk (t := 23) (cs := #[.int .i64 u.1, .int .i64 u.2]) (g := w3.heap.size) (by first | exact B2n | exact Blk.drewN B2n _ | exact Blk.drew B2n) (by simp)
  have O4x : Only [] w w4 := (by first | exact Only.trans (O3.out.alloc _) o (by simp) | exact Only.trans (Only.drewN (O3.out.alloc _) _) o (by simp) | exact Only.trans (Only.drew (O3.out.alloc _)) o (by simp))
  obtain ⟨B0c0, B0c1, B0l⟩ := B0x.facts2
  obtain ⟨B1c0, B1c1, B1l⟩ := B1x.facts2
  obtain ⟨B2c0, B2c1, B2l⟩ := B2x.facts2
  clear B0 B1 B2n O3 o
  have B0 := Lib.hid B0x; have B1 := Lib.hid B1x; have B2 := Lib.hid B2x; have O4 := Lib.hid O4x
  clear B0x B1x B2x O4x
  go_wp2_with (fail)
  refine (awake_any _).mono ?_
  rintro e w5 ⟨rfl, o⟩
  have B3n : Blk (w4.alloc (.cells #[.int .i64 u.1, .int .i64 u.2] 23)) (w4.heap.size) 23 #[.int .i64 u.1, .int .i64 u.2] := (by have h := Blk.new w4 23 #[.int .i64 u.1, .int .i64 u.2]; simpa using h)
  have B0x := o.blk (t := 23) (cs := #[.int .i64 t.1, .int .i64 t.2]) (g := w1.heap.size) (by first | exact (B0.out.alloc _) | exact Blk.drewN (B0.out.alloc _) _ | exact Blk.drew (B0.out.alloc _)) (by simp)
  have B1x := o.blk (t := 23) (cs := #[.int .i64 t.1, .int .i64 t.2]) (g := w2.heap.size) (by first | exact (B1.out.alloc _) | exact Blk.drewN (B1.out.alloc _) _ | exact Blk.drew (B1.out.alloc _)) (by simp)
  have B2x := o.blk (t := 23) (cs := #[.int .i64 u.1, .int .i64 u.2]) (g := w3.heap.size) (by first | exact (B2.out.alloc _) | exact Blk.drewN (B2.out.alloc _) _ | exact Blk.drew (B2.out.alloc _)) (by simp)
  have B3x := o.blk (t := 23) (cs := #[.int .i64 u.1, .int .i64 u.2]) (g := w4.heap.size) (by first | exact B3n | exact Blk.drewN B3n _ | exact Blk.drew B3n) (by simp)
  have O5x : Only [] w w5 := (by first | exact Only.trans (O4.out.alloc _) o (by simp) | exact Only.trans (Only.drewN (O4.out.alloc _) _) o (by simp) | exact Only.trans (Only.drew (O4.out.alloc _)) o (by simp))
  obtain ⟨B0c0, B0c1, B0l⟩ := B0x.facts2
  obtain ⟨B1c0, B1c1, B1l⟩ := B1x.facts2
  obtain ⟨B2c0, B2c1, B2l⟩ := B2x.facts2
  obtain ⟨B3c0, B3c1, B3l⟩ := B3x.facts2
  clear B0 B1 B2 B3n O4 o
  have B0 := Lib.hid B0x; have B1 := Lib.hid B1x; have B2 := Lib.hid B2x; have B3 := Lib.hid B3x; have O5 := Lib.hid O5x
  clear B0x B1x B2x B3x O5x
  go_wp2_with (fail)
  go_ret
  exact ⟨by first | rfl | simp, O5.out⟩

theorem makes_any (n d : Int) (hi : I64 n) (hj : I64 d) (w : World) :
    Calls Tryd.prog 4 #[.int .i64 n, .int .i64 d] w fun r w' => r = .returned (.bool true) ∧ Only [] w w' := by
  obtain ⟨⟨t, e⟩, h1⟩ : ∃ x, x = makeT n d := ⟨_, rfl⟩
  obtain ⟨⟨u, f⟩, h2⟩ : ∃ x, x = makeT n 1 := ⟨_, rfl⟩
  by_cases he : e = 0
  · subst he
    have := make_right h1.symm
    exact makes_ok n d hi hj h1.symm h2.symm this.1 this.2 w
  · exact makes_e n d hi hj h1.symm h2.symm he w
end Go.Proofs.YtgfmahfdkiblbaaDoor
