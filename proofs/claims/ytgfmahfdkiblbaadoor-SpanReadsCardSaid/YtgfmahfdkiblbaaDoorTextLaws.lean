/- SpanTexts, SpanReads: the laws' own walks. -/
import Derived.Test.YtgfmahfdkiblbaaDoorRead
import Derived.Test.YtgfmahfdkiblbaaDoorRefRead
namespace Go.Proofs.YtgfmahfdkiblbaaDoor
open Go.RowKit Go.Kx
set_option maxRecDepth 20000

/-- what the library's variables hold -/
structure Vars (w : World) : Prop where
  tab : Tab10 w
  errs : Errs w
  most : ∃ m, w.cell? ⟨2, 0, none⟩ = some (.int .i64 m)
theorem Vars.only {w w' : World} (h : Vars w) (ho : Only [] w w') : Vars w' := by
  obtain ⟨h1, h2, m, h3⟩ := h
  exact ⟨h1.only ho, h2.only ho, m, (ho.cell (p := ⟨2, 0, none⟩) (World.block_lt_of_cell? w _ h3) (by simp)).trans h3⟩
theorem textr (t : Tm) (ho : t.ok) {l : List UInt8} (h : textT t = l) {w : World} (hv : Vars w) :
    Calls Tryd.prog 27 #[.agg #[.int .i64 t.1, .int .i64 t.2]] w fun e w' => e = .returned (.string ⟨l.toArray⟩) ∧ Only [] w w' := by
  have := text_any t ho hv.tab
  rwa [h] at this
theorem reftextr (t : Tm) (ho : t.ok) {l : List UInt8} (h : textT t = l) (w : World) :
    Calls Tryd.prog 29 #[.agg #[.int .i64 t.1, .int .i64 t.2]] w fun e w' => e = .returned (.string ⟨l.toArray⟩) ∧ Only [] w w' := by
  have := reftext_any t ho (w := w)
  rwa [h] at this
theorem readr (l : List UInt8) (hl : l.length ≤ 10000) {t : Tm} {x : Int} (h : readT l = (t, x)) {w : World} (hv : Vars w) :
    Calls Tryd.prog 28 #[.string ⟨l.toArray⟩] w fun e w' => e = .returned (.tuple #[.agg #[.int .i64 t.1, .int .i64 t.2], .int .i64 x]) ∧ Only [] w w' := by
  obtain ⟨m, hm⟩ := hv.most
  have := read_any l hl hv.tab hv.errs hm
  rwa [h] at this
theorem refreadr (l : List UInt8) (hl : l.length ≤ 10000) {t : Tm} {x : Int} (h : refReadT l = (t, x)) (w : World) :
    Calls Tryd.prog 30 #[.string ⟨l.toArray⟩] w fun e w' => e = .returned (.tuple #[.agg #[.int .i64 t.1, .int .i64 t.2], .int .i64 x]) ∧ Only [] w w' := by
  have := refread_any l hl w
  rwa [h] at this
theorem text_len (t : Tm) (ho : t.ok) : (textT t).length ≤ 10000 := by
  by_cases h : t.right = true
  · rcases right_cases ho h with rfl | ⟨n, d, f⟩
    · decide
    · obtain ⟨_, _, hn, hd⟩ := f.len
      have h1 := decDigits_len n hn
      have h2 := decDigits_len d hd
      rw [text_fin f]
      split
      · omega
      · simp; omega
  · unfold textT
    rw [if_neg h]; simp

set_option maxHeartbeats 2000000 in
theorem texts_w (t : Tm) (ho : t.ok) (hr : t.right = false) {w : World} (hv : Vars w) :
    Calls Tryd.prog 11 #[.agg #[.int .i64 t.1, .int .i64 t.2]] w fun r w' => r = .returned (.bool true) ∧ Only [] w w' := by
  have HV := Lib.hid hv
  have HR := Lib.hid hr
  have H1 := Lib.hid (show textT t = [] by unfold textT; rw [if_neg (by rw [hr]; simp)])
  have H2 := Lib.hid read_empty
  clear hv hr
  have O0 := Lib.hid (Only.refl [] w)
  go_enter Tryd.func11, Tryd.ntmps11
  go_wp2_with (fail)
  refine (textr t ho H1.out (HV.out.only (by first | exact O0.out | exact O0.out.alloc _ | exact (O0.out.alloc _).alloc _))).mono ?_
  rintro e w1 ⟨rfl, o⟩
  have B0n : Blk (w.alloc (.cells #[.int .i64 t.1, .int .i64 t.2] 23)) (w.heap.size) 23 #[.int .i64 t.1, .int .i64 t.2] := (by have h := Blk.new w 23 #[.int .i64 t.1, .int .i64 t.2]; simpa using h)
  have B0x := o.blk (t := 23) (cs := #[.int .i64 t.1, .int .i64 t.2]) (g := w.heap.size) (by first | exact B0n | exact Blk.drewN B0n _ | exact Blk.drew B0n) (by simp)
  have O1x : Only [] w w1 := (by first | exact Only.trans (O0.out.alloc _) o (by simp) | exact Only.trans (Only.drewN (O0.out.alloc _) _) o (by simp) | exact Only.trans (Only.drew (O0.out.alloc _)) o (by simp))
  obtain ⟨B0c0, B0c1, B0l⟩ := B0x.facts2
  clear B0n O0 o
  have B0 := Lib.hid B0x; have O1 := Lib.hid O1x
  clear B0x O1x
  go_wp2_with (fail)
  refine (readr [] (by simp) H2.out (HV.out.only (by first | exact O1.out | exact O1.out.alloc _ | exact (O1.out.alloc _).alloc _))).mono ?_
  rintro e w2 ⟨rfl, o⟩
  have B0x := o.blk (t := 23) (cs := #[.int .i64 t.1, .int .i64 t.2]) (g := w.heap.size) (by first | exact B0.out | exact Blk.drewN B0.out _ | exact Blk.drew B0.out) (by simp)
  have O2x : Only [] w w2 := (by first | exact Only.trans O1.out o (by simp) | exact Only.trans (Only.drewN O1.out _) o (by simp) | exact Only.trans (Only.drew O1.out) o (by simp))
  obtain ⟨B0c0, B0c1, B0l⟩ := B0x.facts2
  clear B0 O1 o
  have B0 := Lib.hid B0x; have O2 := Lib.hid O2x
  clear B0x O2x
  go_wp2_with (fail)
  refine (refrightr ho HR.out _).mono ?_
  rintro e w3 ⟨rfl, o⟩
  have B1n : Blk (w2.alloc (.cells #[.int .i64 0, .int .i64 0] 23)) (w2.heap.size) 23 #[.int .i64 0, .int .i64 0] := (by have h := Blk.new w2 23 #[.int .i64 0, .int .i64 0]; simpa using h)
  have B0x := o.blk (t := 23) (cs := #[.int .i64 t.1, .int .i64 t.2]) (g := w.heap.size) (by first | exact (B0.out.alloc _) | exact Blk.drewN (B0.out.alloc _) _ | exact Blk.drew (B0.out.alloc _)) (by simp)
  have B1x := o.blk (t := 23) (cs := #[.int .i64 0, .int .i64 0]) (g := w2.heap.size) (by first | exact B1n | exact Blk.drewN B1n _ | exact Blk.drew B1n) (by simp)
  have O3x : Only [] w w3 := (by first | exact Only.trans (O2.out.alloc _) o (by simp) | exact Only.trans (Only.drewN (O2.out.alloc _) _) o (by simp) | exact Only.trans (Only.drew (O2.out.alloc _)) o (by simp))
  obtain ⟨B0c0, B0c1, B0l⟩ := B0x.facts2
  obtain ⟨B1c0, B1c1, B1l⟩ := B1x.facts2
  clear B0 B1n O2 o
  have B0 := Lib.hid B0x; have B1 := Lib.hid B1x; have O3 := Lib.hid O3x
  clear B0x B1x O3x
  go_wp2_with (fail)
  refine (awake_any _).mono ?_
  rintro e w4 ⟨rfl, o⟩
  have B0x := o.blk (t := 23) (cs := #[.int .i64 t.1, .int .i64 t.2]) (g := w.heap.size) (by first | exact B0.out | exact Blk.drewN B0.out _ | exact Blk.drew B0.out) (by simp)
  have B1x := o.blk (t := 23) (cs := #[.int .i64 0, .int .i64 0]) (g := w2.heap.size) (by first | exact B1.out | exact Blk.drewN B1.out _ | exact Blk.drew B1.out) (by simp)
  have O4x : Only [] w w4 := (by first | exact Only.trans O3.out o (by simp) | exact Only.trans (Only.drewN O3.out _) o (by simp) | exact Only.trans (Only.drew O3.out) o (by simp))
  obtain ⟨B0c0, B0c1, B0l⟩ := B0x.facts2
  obtain ⟨B1c0, B1c1, B1l⟩ := B1x.facts2
  clear B0 B1 O3 o
  have B0 := Lib.hid B0x; have B1 := Lib.hid B1x; have O4 := Lib.hid O4x
  clear B0x B1x O4x
  go_wp2_with (fail)
  go_ret
  exact ⟨by first | rfl | simp, O4.out⟩

set_option maxHeartbeats 2000000 in
theorem texts_k (t : Tm) (ho : t.ok) (hr : t.right = true) {l : List UInt8} (h1 : textT t = l) (h2 : readT l = (t, 0)) (hl : l.length ≤ 10000) {w : World} (hv : Vars w) :
    Calls Tryd.prog 11 #[.agg #[.int .i64 t.1, .int .i64 t.2]] w fun r w' => r = .returned (.bool true) ∧ Only [] w w' := by
  have HV := Lib.hid hv
  have HR := Lib.hid hr
  have H1 := Lib.hid h1
  have H2 := Lib.hid h2
  have hE1 := eq_timesT t
  clear hv hr h1 h2
  have O0 := Lib.hid (Only.refl [] w)
  go_enter Tryd.func11, Tryd.ntmps11
  go_wp2_with (fail)
  refine (textr t ho H1.out (HV.out.only (by first | exact O0.out | exact O0.out.alloc _ | exact (O0.out.alloc _).alloc _))).mono ?_
  rintro e w1 ⟨rfl, o⟩
  have B0n : Blk (w.alloc (.cells #[.int .i64 t.1, .int .i64 t.2] 23)) (w.heap.size) 23 #[.int .i64 t.1, .int .i64 t.2] := (by have h := Blk.new w 23 #[.int .i64 t.1, .int .i64 t.2]; simpa using h)
  have B0x := o.blk (t := 23) (cs := #[.int .i64 t.1, .int .i64 t.2]) (g := w.heap.size) (by first | exact B0n | exact Blk.drewN B0n _ | exact Blk.drew B0n) (by simp)
  have O1x : Only [] w w1 := (by first | exact Only.trans (O0.out.alloc _) o (by simp) | exact Only.trans (Only.drewN (O0.out.alloc _) _) o (by simp) | exact Only.trans (Only.drew (O0.out.alloc _)) o (by simp))
  obtain ⟨B0c0, B0c1, B0l⟩ := B0x.facts2
  clear B0n O0 o
  have B0 := Lib.hid B0x; have O1 := Lib.hid O1x
  clear B0x O1x
  go_wp2_with (fail)
  refine (readr l hl H2.out (HV.out.only (by first | exact O1.out | exact O1.out.alloc _ | exact (O1.out.alloc _).alloc _))).mono ?_
  rintro e w2 ⟨rfl, o⟩
  have B0x := o.blk (t := 23) (cs := #[.int .i64 t.1, .int .i64 t.2]) (g := w.heap.size) (by first | exact B0.out | exact Blk.drewN B0.out _ | exact Blk.drew B0.out) (by simp)
  have O2x : Only [] w w2 := (by first | exact Only.trans O1.out o (by simp) | exact Only.trans (Only.drewN O1.out _) o (by simp) | exact Only.trans (Only.drew O1.out) o (by simp))
  obtain ⟨B0c0, B0c1, B0l⟩ := B0x.facts2
  clear B0 O1 o
  have B0 := Lib.hid B0x; have O2 := Lib.hid O2x
  clear B0x O2x
  go_wp2_with (fail)
  refine (refrightr ho HR.out _).mono ?_
  rintro e w3 ⟨rfl, o⟩
  have B1n : Blk (w2.alloc (.cells #[.int .i64 t.1, .int .i64 t.2] 23)) (w2.heap.size) 23 #[.int .i64 t.1, .int .i64 t.2] := (by have h := Blk.new w2 23 #[.int .i64 t.1, .int .i64 t.2]; simpa using h)
  have B0x := o.blk (t := 23) (cs := #[.int .i64 t.1, .int .i64 t.2]) (g := w.heap.size) (by first | exact (B0.out.alloc _) | exact Blk.drewN (B0.out.alloc _) _ | exact Blk.drew (B0.out.alloc _)) (by simp)
  have B1x := o.blk (t := 23) (cs := #[.int .i64 t.1, .int .i64 t.2]) (g := w2.heap.size) (by first | exact B1n | exact Blk.drewN B1n _ | exact Blk.drew B1n) (by simp)
  have O3x : Only [] w w3 := (by first | exact Only.trans (O2.out.alloc _) o (by simp) | exact Only.trans (Only.drewN (O2.out.alloc _) _) o (by simp) | exact Only.trans (Only.drew (O2.out.alloc _)) o (by simp))
  obtain ⟨B0c0, B0c1, B0l⟩ := B0x.facts2
  obtain ⟨B1c0, B1c1, B1l⟩ := B1x.facts2
  clear B0 B1n O2 o
  have B0 := Lib.hid B0x; have B1 := Lib.hid B1x; have O3 := Lib.hid O3x
  clear B0x B1x O3x
  go_wp2_with (fail)
  refine (awake_any _).mono ?_
  rintro e w4 ⟨rfl, o⟩
  have B0x := o.blk (t := 23) (cs := #[.int .i64 t.1, .int .i64 t.2]) (g := w.heap.size) (by first | exact B0.out | exact Blk.drewN B0.out _ | exact Blk.drew B0.out) (by simp)
  have B1x := o.blk (t := 23) (cs := #[.int .i64 t.1, .int .i64 t.2]) (g := w2.heap.size) (by first | exact B1.out | exact Blk.drewN B1.out _ | exact Blk.drew B1.out) (by simp)
  have O4x : Only [] w w4 := (by first | exact Only.trans O3.out o (by simp) | exact Only.trans (Only.drewN O3.out _) o (by simp) | exact Only.trans (Only.drew O3.out) o (by simp))
  obtain ⟨B0c0, B0c1, B0l⟩ := B0x.facts2
  obtain ⟨B1c0, B1c1, B1l⟩ := B1x.facts2
  clear B0 B1 O3 o
  have B0 := Lib.hid B0x; have B1 := Lib.hid B1x; have O4 := Lib.hid O4x
  clear B0x B1x O4x
  go_wp2_with (fail)
  refine (reftextr t ho H1.out _).mono ?_
  rintro e w5 ⟨rfl, o⟩
  have B0x := o.blk (t := 23) (cs := #[.int .i64 t.1, .int .i64 t.2]) (g := w.heap.size) (by first | exact B0.out | exact Blk.drewN B0.out _ | exact Blk.drew B0.out) (by simp)
  have B1x := o.blk (t := 23) (cs := #[.int .i64 t.1, .int .i64 t.2]) (g := w2.heap.size) (by first | exact B1.out | exact Blk.drewN B1.out _ | exact Blk.drew B1.out) (by simp)
  have O5x : Only [] w w5 := (by first | exact Only.trans O4.out o (by simp) | exact Only.trans (Only.drewN O4.out _) o (by simp) | exact Only.trans (Only.drew O4.out) o (by simp))
  obtain ⟨B0c0, B0c1, B0l⟩ := B0x.facts2
  obtain ⟨B1c0, B1c1, B1l⟩ := B1x.facts2
  clear B0 B1 O4 o
  have B0 := Lib.hid B0x; have B1 := Lib.hid B1x; have O5 := Lib.hid O5x
  clear B0x B1x O5x
  go_wp2_with (fail)
  go_ret
  exact ⟨by first | rfl | simp, O5.out⟩

theorem texts_any (t : Tm) (ho : t.ok) {w : World} (hv : Vars w) :
    Calls Tryd.prog 11 #[.agg #[.int .i64 t.1, .int .i64 t.2]] w fun r w' => r = .returned (.bool true) ∧ Only [] w w' := by
  by_cases hr : t.right = true
  · exact texts_k t ho hr rfl (read_text ho hr) (text_len t ho) hv
  · exact texts_w t ho (by simpa using hr) hv

theorem reads_long (s : ByteArray) (hl : 10000 < s.size) (hm : s.size ≤ 9223372036854775807) (w : World) :
    Calls Tryd.prog 12 #[.string s] w fun r w' => r = .returned (.bool true) ∧ Only [] w w' := by
  have hg : decide ((10000 : Int) < (s.size : Int)) = true := by simp; omega
  go_enter Tryd.func12, Tryd.ntmps12
  go_wp2_with (fail)
  refine (awake_any _).mono ?_
  rintro e w1 ⟨rfl, o1⟩
  go_wp2_with (fail)
  go_ret
  exact ⟨rfl, o1⟩

set_option maxHeartbeats 2000000 in
theorem reads_short (l : List UInt8) (hl : l.length ≤ 10000) {t : Tm} {x : Int} (h1 : readT l = (t, x)) (h2 : refReadT l = (t, x)) {w : World} (hv : Vars w) :
    Calls Tryd.prog 12 #[.string ⟨l.toArray⟩] w fun r w' => r = .returned (.bool true) ∧ Only [] w w' := by
  have hg : decide ((10000 : Int) < (l.length : Int)) = false := by simp; omega
  have HV := Lib.hid hv
  have H1 := Lib.hid h1
  have H2 := Lib.hid h2
  have hE1 := eq_timesT t
  clear hv h1 h2
  have O0 := Lib.hid (Only.refl [] w)
  go_enter Tryd.func12, Tryd.ntmps12
  go_wp2_with (fail)
  refine (readr l hl H1.out HV.out).mono ?_
  rintro e w1 ⟨rfl, o⟩
  have O1 := Lib.hid o
  clear o O0
  go_wp2_with (fail)
  refine (refreadr l hl H2.out _).mono ?_
  rintro e w2 ⟨rfl, o⟩
  have B0n : Blk (w1.alloc (.cells #[.int .i64 t.1, .int .i64 t.2] 23)) (w1.heap.size) 23 #[.int .i64 t.1, .int .i64 t.2] := (by have h := Blk.new w1 23 #[.int .i64 t.1, .int .i64 t.2]; simpa using h)
  have B0x := o.blk (t := 23) (cs := #[.int .i64 t.1, .int .i64 t.2]) (g := w1.heap.size) (by first | exact B0n | exact Blk.drewN B0n _ | exact Blk.drew B0n) (by simp)
  have O2x : Only [] w w2 := (by first | exact Only.trans (O1.out.alloc _) o (by simp) | exact Only.trans (Only.drewN (O1.out.alloc _) _) o (by simp) | exact Only.trans (Only.drew (O1.out.alloc _)) o (by simp))
  obtain ⟨B0c0, B0c1, B0l⟩ := B0x.facts2
  clear B0n O1 o
  have B0 := Lib.hid B0x; have O2 := Lib.hid O2x
  clear B0x O2x
  go_wp2_with (fail)
  refine (awake_any _).mono ?_
  rintro e w3 ⟨rfl, o⟩
  have B1n : Blk (w2.alloc (.cells #[.int .i64 t.1, .int .i64 t.2] 23)) (w2.heap.size) 23 #[.int .i64 t.1, .int .i64 t.2] := (by have h := Blk.new w2 23 #[.int .i64 t.1, .int .i64 t.2]; simpa using h)
  have B0x := o.blk (t := 23) (cs := #[.int .i64 t.1, .int .i64 t.2]) (g := w1.heap.size) (by first | exact (B0.out.alloc _) | exact Blk.drewN (B0.out.alloc _) _ | exact Blk.drew (B0.out.alloc _)) (by simp)
  have B1x := o.blk (t := 23) (cs := #[.int .i64 t.1, .int .i64 t.2]) (g := w2.heap.size) (by first | exact B1n | exact Blk.drewN B1n _ | exact Blk.drew B1n) (by simp)
  have O3x : Only [] w w3 := (by first | exact Only.trans (O2.out.alloc _) o (by simp) | exact Only.trans (Only.drewN (O2.out.alloc _) _) o (by simp) | exact Only.trans (Only.drew (O2.out.alloc _)) o (by simp))
  obtain ⟨B0c0, B0c1, B0l⟩ := B0x.facts2
  obtain ⟨B1c0, B1c1, B1l⟩ := B1x.facts2
  clear B0 B1n O2 o
  have B0 := Lib.hid B0x; have B1 := Lib.hid B1x; have O3 := Lib.hid O3x
  clear B0x B1x O3x
  go_wp2_with (fail)
  go_ret
  exact ⟨by first | rfl | simp, O3.out⟩

theorem reads_any (s : ByteArray) (hm : s.size ≤ 9223372036854775807) {w : World} (hv : Vars w) :
    Calls Tryd.prog 12 #[.string s] w fun r w' => r = .returned (.bool true) ∧ Only [] w w' := by
  by_cases hl : 10000 < s.size
  · exact reads_long s hl hm w
  · have e : (⟨s.data.toList.toArray⟩ : ByteArray) = s := by simp
    obtain ⟨⟨t, x⟩, h⟩ : ∃ y, refReadT s.data.toList = y := ⟨_, rfl⟩
    have := reads_short s.data.toList (by simp; omega) ((read_eq _).trans h) h hv
    rwa [e] at this
end Go.Proofs.YtgfmahfdkiblbaaDoor
