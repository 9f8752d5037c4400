/- span.Read, walked. -/
import Derived.Test.YtgfmahfdkiblbaaDoorReadLaw
import Derived.Test.YtgfmahfdkiblbaaDoorAtoi
namespace Go.Proofs.YtgfmahfdkiblbaaDoor
open Go.RowKit Go.Kx

set_option maxRecDepth 20000
/-- the library's two errors are laid -/
def Errs (w : World) : Prop := (∃ tp p, w.var? Tryd.prog "strconv.ErrSyntax" = some #[.iface tp p]) ∧ (∃ tp p, w.var? Tryd.prog "strconv.ErrRange" = some #[.iface tp p])
theorem var_only {w w' : World} {P : Program} {n : String} {v : Array Value} (h : w.var? P n = some v) (ho : Only [] w w') : w'.var? P n = some v := by
  unfold World.var? at h ⊢
  cases hg : P.globalNamed n with
  | none => rw [hg] at h; cases h
  | some g =>
    rw [hg] at h
    simp only [Option.bind_some] at h ⊢
    have hlt : g < w.heap.size := by
      rcases Nat.lt_or_ge g w.heap.size with h1 | h1
      · exact h1
      · rw [Array.getElem?_eq_none h1] at h; cases h
    rw [ho.block g hlt (by simp)]
    exact h
theorem Errs.only {w w' : World} (h : Errs w) (ho : Only [] w w') : Errs w' := by
  obtain ⟨⟨tp, p, h1⟩, ⟨tq, q, h2⟩⟩ := h
  exact ⟨⟨tp, p, var_only h1 ho⟩, ⟨tq, q, var_only h2 ho⟩⟩
theorem only_bytes {w w' : World} (h : w' = w ∨ ∃ t, w' = Lib.bytesWorld w 5 t) : Only [] w w' := by
  rcases h with rfl | ⟨t, rfl⟩
  · exact Only.refl _ _
  · exact only_of_below (Lib.bytesWorld_below w 5 t)
theorem number_ok (l : List UInt8) (hl : l.length ≤ 100000) {v : Int} (h : Lib.atoiAll l = .ok v) (w : World) :
    Calls Tryd.prog 47 #[.string ⟨l.toArray⟩] w fun e w' => e = .returned (.int .i64 v) ∧ Only [] w w' := by
  have hc := fun W => Tryd.strconv_Atoi_ok ⟨l.toArray⟩ (by show l.toArray.size ≤ _; simp; omega) v (by simpa using h) W
  have HC := Lib.hid hc
  clear hc h
  go_enter Tryd.func47, Tryd.ntmps47
  go_wp2_with (fail)
  refine (HC.out _).mono ?_
  rintro e w1 ⟨rfl, o⟩
  have O1 := Lib.hid (only_bytes o)
  clear o
  go_wp2_with (fail)
  go_ret
  exact ⟨rfl, O1.out⟩
theorem atoi_bad (l : List UInt8) (hl : l.length ≤ 100000) (h : ∀ v, Lib.atoiAll l ≠ .ok v) {w : World} (hE : Errs w) :
    Calls Tryd.prog 59 #[.string ⟨l.toArray⟩] w fun e w' => (∃ x N, e = .returned (.tuple #[.int .i64 x, .iface 90 (.pointer (some ⟨N, 0, none⟩))])) ∧ Only [] w w' := by
  obtain ⟨⟨tp, p, h1⟩, ⟨tq, q, h2⟩⟩ := hE
  have hs : (⟨l.toArray⟩ : ByteArray).size ≤ 281474976710656 := by show l.toArray.size ≤ _; simp; omega
  rcases hh : Lib.atoiAll l with v | _ | _
  · exact absurd hh (h v)
  · exact (Tryd.strconv_Atoi_syntax_var ⟨l.toArray⟩ hs (by simpa using hh) tp p w h1).mono fun e w' ⟨N, he, _, _, hb⟩ => ⟨⟨0, N, he⟩, only_of_below hb⟩
  · exact (Tryd.strconv_Atoi_range_var ⟨l.toArray⟩ hs (by simpa using hh) tq q w h2).mono fun e w' ⟨N, he, _, _, hb⟩ => ⟨⟨_, N, he⟩, only_of_below hb⟩
theorem number_bad (l : List UInt8) (hl : l.length ≤ 100000) (h : ∀ v, Lib.atoiAll l ≠ .ok v) {w : World} (hE : Errs w) :
    Calls Tryd.prog 47 #[.string ⟨l.toArray⟩] w fun e w' => e = .returned (.int .i64 (-1)) ∧ Only [] w w' := by
  have HC := Lib.hid (atoi_bad l hl h hE)
  clear h hE
  go_enter Tryd.func47, Tryd.ntmps47
  go_wp2_with (fail)
  refine (HC.out).mono ?_
  rintro e w1 ⟨⟨x, N, rfl⟩, o⟩
  have O1 := Lib.hid o
  clear o
  go_wp2_with (fail)
  go_ret
  exact ⟨rfl, O1.out⟩
theorem number_any (l : List UInt8) (hl : l.length ≤ 100000) {w : World} (hE : Errs w) :
    Calls Tryd.prog 47 #[.string ⟨l.toArray⟩] w fun e w' => e = .returned (.int .i64 (numb l)) ∧ Only [] w w' := by
  unfold numb
  rcases hh : Lib.atoiAll l with v | _ | _
  · exact number_ok l hl hh w
  · exact number_bad l hl (fun v => by rw [hh]; simp) hE
  · exact number_bad l hl (fun v => by rw [hh]; simp) hE
theorem cut_any (l : List UInt8) (hl : l.length ≤ 100000) {m : Int} (w : World) (hm : w.cell? ⟨2, 0, none⟩ = some (.int .i64 m)) :
    Calls Tryd.prog 46 #[.string ⟨l.toArray⟩, .string ⟨#[47]⟩] w fun e w' => e = .returned (.tuple #[.string ⟨(Lib.cut l [47]).1.toArray⟩, .string ⟨(Lib.cut l [47]).2.1.toArray⟩, .bool (Lib.cut l [47]).2.2]) ∧ Only [] w w' := by
  have := Tryd.strings_Cut ⟨l.toArray⟩ ⟨#[47]⟩ m w (by show l.toArray.size < _; simp; omega) hm
  exact this.mono fun e w' ⟨he, n, hw⟩ => ⟨he, by subst hw; exact (Only.refl _ _).drewN n⟩

set_option maxHeartbeats 2000000 in
theorem read_never (w : World) (ht : Tab10 w) :
    Calls Tryd.prog 28 #[.string ⟨neverS.toArray⟩] w fun e w' => e = .returned (.tuple #[.agg #[.int .i64 1, .int .i64 0], .int .i64 0]) ∧ Only [] w w' := by
  have HT := Lib.hid ht
  clear ht
  have hN : (neverS == [110, 101, 118, 101, 114]) = true := by decide
  have hN2 : (textT (1, 0) == neverS) = true := by decide
  have T0 := Lib.hid (Blk.new w 23 #[.int .i64 0, .int .i64 0])
  go_enter Tryd.func28, Tryd.ntmps28
  go_wp2_with (fail)
  refine (never_any _).mono ?_
  rintro e w1 ⟨rfl, o1⟩
  have T1 := Lib.hid (o1.blk T0.out (by simp))
  have O1 := Lib.hid (((Only.refl [] w).alloc (.cells #[.int .i64 0, .int .i64 0] 23)).trans o1 (by simp))
  clear o1 T0
  have U1 := Lib.hid (Blk.new w1 23 #[.int .i64 1, .int .i64 0])
  have Q1 := Lib.hid (T1.out.alloc (.cells #[.int .i64 1, .int .i64 0] 23))
  have P1 := Lib.hid (O1.out.alloc (.cells #[.int .i64 1, .int .i64 0] 23))
  have T1L := Lib.hid T1.out.lt
  have T1LT := Lib.hid (Nat.ne_of_lt T1.out.lt)
  clear T1 O1
  have NE := Lib.hid (show w.heap.size ≠ w1.heap.size from T1LT.out)
  have LE := Lib.hid (show w.heap.size ≤ w1.heap.size from Nat.le_of_lt T1L.out)
  go_wp2_with (fail)
  refine (rightnv _).mono ?_
  rintro e w2 ⟨rfl, o⟩
  have U2 := Lib.hid (o.blk U1.out (by simp))
  have Q2 := Lib.hid (o.blk Q1.out (by simp))
  have P2 := Lib.hid (P1.out.trans o (by simp))
  clear o U1 Q1 P1
  obtain ⟨u20, u21, ul2⟩ := U2.out.facts2
  obtain ⟨q20, q21, ql2⟩ := Q2.out.facts2
  have uf20 := U2.out.frozen 0
  have uf21 := U2.out.frozen 1
  have qf20 := Q2.out.frozen 0
  have qf21 := Q2.out.frozen 1
  go_wp2_with (fail)
  refine (text_any (1, 0) ok_never (HT.out.only P2.out)).mono ?_
  rintro e w3 ⟨rfl, o⟩
  have U3 := Lib.hid (o.blk U2.out (by simp))
  have Q3 := Lib.hid (o.blk Q2.out (by simp))
  have P3 := Lib.hid (P2.out.trans o (by simp))
  clear o U2 Q2 P2
  obtain ⟨u30, u31, ul3⟩ := U3.out.facts2
  obtain ⟨q30, q31, ql3⟩ := Q3.out.facts2
  have uf30 := U3.out.frozen 0
  have uf31 := U3.out.frozen 1
  have qf30 := Q3.out.frozen 0
  have qf31 := Q3.out.frozen 1
  go_wp2_with (fail)
  exact bodyPost_ret (v := .tuple #[.agg #[.int .i64 1, .int .i64 0], .int .i64 0]) (by simp [results, Tryd.results28, go_sem, q30, q31]) rfl ⟨rfl, only_two P3.out (by simp) (by simp) _ _⟩

set_option maxHeartbeats 2000000 in
theorem read_one_w (l : List UInt8) (hl : l.length ≤ 10000) {w : World} (ht : Tab10 w) (hE : Errs w) {mm : Int} (hm : w.cell? ⟨2, 0, none⟩ = some (.int .i64 mm)) (hn : (l == [110, 101, 118, 101, 114]) = false) (hc : Lib.cut l [47] = (l, [], false)) {x : Int} (hx : numb l = x) (ho : Tm.ok (x, 1)) (hr : Tm.right (x, 1) = false) :
    Calls Tryd.prog 28 #[.string ⟨l.toArray⟩] w fun e w' => e = .returned (.tuple #[.agg #[.int .i64 0, .int .i64 0], .int .i64 6]) ∧ Only [] w w' := by
  have HT := Lib.hid ht
  have HE := Lib.hid hE
  have HM := Lib.hid hm
  have HC := Lib.hid hc
  have HX := Lib.hid hx
  have HR := Lib.hid hr
  have HO := Lib.hid ho
  have lmt := Lib.hid (World.block_lt_of_cell? w ⟨2, 0, none⟩ hm)
  clear ht hE hm hc hx hr ho
  have T0 := Lib.hid (Blk.new w 23 #[.int .i64 0, .int .i64 0])
  go_enter Tryd.func28, Tryd.ntmps28
  go_wp2_with (fail)
  refine (never_any _).mono ?_
  rintro e w1 ⟨rfl, o1⟩
  have T1 := Lib.hid (o1.blk T0.out (by simp))
  have O1 := Lib.hid (((Only.refl [] w).alloc (.cells #[.int .i64 0, .int .i64 0] 23)).trans o1 (by simp))
  clear o1 T0
  have U1 := Lib.hid (Blk.new w1 23 #[.int .i64 1, .int .i64 0])
  have Q1 := Lib.hid (T1.out.alloc (.cells #[.int .i64 1, .int .i64 0] 23))
  have P1 := Lib.hid (O1.out.alloc (.cells #[.int .i64 1, .int .i64 0] 23))
  have T1L := Lib.hid T1.out.lt
  have T1LT := Lib.hid (Nat.ne_of_lt T1.out.lt)
  clear T1 O1
  have NE := Lib.hid (show w.heap.size ≠ w1.heap.size from T1LT.out)
  have LE := Lib.hid (show w.heap.size ≤ w1.heap.size from Nat.le_of_lt T1L.out)
  have m1 := (P1.out.cell (p := ⟨2, 0, none⟩) lmt.out (by simp)).trans HM.out
  go_wp2_with (fail)
  refine (cut_any l (by omega) _ m1).mono ?_
  rintro e w2 ⟨rfl, o⟩
  have U2 := Lib.hid (o.blk U1.out (by simp))
  have Q2 := Lib.hid (o.blk Q1.out (by simp))
  have P2 := Lib.hid (P1.out.trans o (by simp))
  clear o U1 Q1 P1
  obtain ⟨u20, u21, ul2⟩ := U2.out.facts2
  obtain ⟨q20, q21, ql2⟩ := Q2.out.facts2
  have uf20 := U2.out.frozen 0
  have uf21 := U2.out.frozen 1
  have qf20 := Q2.out.frozen 0
  have qf21 := Q2.out.frozen 1
  clear m1
  rw [HC.out]
  go_wp2_with (fail)
  refine (number_any l (by omega) (HE.out.only P2.out)).mono ?_
  rintro e w3 ⟨rfl, o⟩
  have U3 := Lib.hid (o.blk U2.out (by simp))
  have Q3 := Lib.hid (o.blk Q2.out (by simp))
  have P3 := Lib.hid (P2.out.trans o (by simp))
  clear o U2 Q2 P2
  obtain ⟨u30, u31, ul3⟩ := U3.out.facts2
  obtain ⟨q30, q31, ql3⟩ := Q3.out.facts2
  have uf30 := U3.out.frozen 0
  have uf31 := U3.out.frozen 1
  have qf30 := Q3.out.frozen 0
  have qf31 := Q3.out.frozen 1
  rw [HX.out]
  have U9 : Blk ((w3.setCell ⟨w1.heap.size, 0, none⟩ (.int .i64 x)).setCell ⟨w1.heap.size, 1, none⟩ (.int .i64 1)) w1.heap.size 23 #[.int .i64 x, .int .i64 1] := (U3.out.set_ 0 _).set_ 1 _
  go_wp2_with (fail)
  obtain ⟨wb, hwb⟩ : ∃ wb, (w3.setCell ⟨w1.heap.size, 0, none⟩ (.int .i64 x)).setCell ⟨w1.heap.size, 1, none⟩ (.int .i64 1) = wb := ⟨_, rfl⟩
  rw [hwb] at U9
  have Q9 : Blk wb w.heap.size 23 #[.int .i64 0, .int .i64 0] := by rw [← hwb]; exact (Q3.out.far (NE.out) _).far (NE.out) _
  have P9 : Only [] w wb := by rw [← hwb]; exact (P3.out.setCell (.inr LE.out) _).setCell (.inr LE.out) _
  rw [hwb]
  clear hwb
  have U4 := Lib.hid U9
  have Q4 := Lib.hid Q9
  have P4 := Lib.hid P9
  clear U9 Q9 P9
  refine (rightr (a := (x, 1)) HO.out HR.out _).mono ?_
  rintro e w5 ⟨rfl, o⟩
  have U5 := Lib.hid (o.blk U4.out (by simp))
  have Q5 := Lib.hid (o.blk Q4.out (by simp))
  have P5 := Lib.hid (P4.out.trans o (by simp))
  clear o U4 Q4 P4
  obtain ⟨u50, u51, ul5⟩ := U5.out.facts2
  obtain ⟨q50, q51, ql5⟩ := Q5.out.facts2
  have qf50 := Q5.out.frozen 0
  have qf51 := Q5.out.frozen 1
  go_wp2_with (fail)
  exact bodyPost_ret (v := .tuple #[.agg #[.int .i64 0, .int .i64 0], .int .i64 6]) (by simp [results, Tryd.results28, go_sem, q50, q51]) rfl ⟨rfl, only_two P5.out (by simp) (by simp) _ _⟩

set_option maxHeartbeats 2000000 in
theorem read_one_x (l : List UInt8) (hl : l.length ≤ 10000) {w : World} (ht : Tab10 w) (hE : Errs w) {mm : Int} (hm : w.cell? ⟨2, 0, none⟩ = some (.int .i64 mm)) (hn : (l == [110, 101, 118, 101, 114]) = false) (hc : Lib.cut l [47] = (l, [], false)) {x : Int} (hx : numb l = x) (ho : Tm.ok (x, 1)) (hr : Tm.right (x, 1) = true) (hT : (textT (x, 1) == l) = false) :
    Calls Tryd.prog 28 #[.string ⟨l.toArray⟩] w fun e w' => e = .returned (.tuple #[.agg #[.int .i64 0, .int .i64 0], .int .i64 6]) ∧ Only [] w w' := by
  have HT := Lib.hid ht
  have HE := Lib.hid hE
  have HM := Lib.hid hm
  have HC := Lib.hid hc
  have HX := Lib.hid hx
  have HR := Lib.hid hr
  have HO := Lib.hid ho
  have lmt := Lib.hid (World.block_lt_of_cell? w ⟨2, 0, none⟩ hm)
  clear ht hE hm hc hx hr ho
  have T0 := Lib.hid (Blk.new w 23 #[.int .i64 0, .int .i64 0])
  go_enter Tryd.func28, Tryd.ntmps28
  go_wp2_with (fail)
  refine (never_any _).mono ?_
  rintro e w1 ⟨rfl, o1⟩
  have T1 := Lib.hid (o1.blk T0.out (by simp))
  have O1 := Lib.hid (((Only.refl [] w).alloc (.cells #[.int .i64 0, .int .i64 0] 23)).trans o1 (by simp))
  clear o1 T0
  have U1 := Lib.hid (Blk.new w1 23 #[.int .i64 1, .int .i64 0])
  have Q1 := Lib.hid (T1.out.alloc (.cells #[.int .i64 1, .int .i64 0] 23))
  have P1 := Lib.hid (O1.out.alloc (.cells #[.int .i64 1, .int .i64 0] 23))
  have T1L := Lib.hid T1.out.lt
  have T1LT := Lib.hid (Nat.ne_of_lt T1.out.lt)
  clear T1 O1
  have NE := Lib.hid (show w.heap.size ≠ w1.heap.size from T1LT.out)
  have LE := Lib.hid (show w.heap.size ≤ w1.heap.size from Nat.le_of_lt T1L.out)
  have m1 := (P1.out.cell (p := ⟨2, 0, none⟩) lmt.out (by simp)).trans HM.out
  go_wp2_with (fail)
  refine (cut_any l (by omega) _ m1).mono ?_
  rintro e w2 ⟨rfl, o⟩
  have U2 := Lib.hid (o.blk U1.out (by simp))
  have Q2 := Lib.hid (o.blk Q1.out (by simp))
  have P2 := Lib.hid (P1.out.trans o (by simp))
  clear o U1 Q1 P1
  obtain ⟨u20, u21, ul2⟩ := U2.out.facts2
  obtain ⟨q20, q21, ql2⟩ := Q2.out.facts2
  have uf20 := U2.out.frozen 0
  have uf21 := U2.out.frozen 1
  have qf20 := Q2.out.frozen 0
  have qf21 := Q2.out.frozen 1
  clear m1
  rw [HC.out]
  go_wp2_with (fail)
  refine (number_any l (by omega) (HE.out.only P2.out)).mono ?_
  rintro e w3 ⟨rfl, o⟩
  have U3 := Lib.hid (o.blk U2.out (by simp))
  have Q3 := Lib.hid (o.blk Q2.out (by simp))
  have P3 := Lib.hid (P2.out.trans o (by simp))
  clear o U2 Q2 P2
  obtain ⟨u30, u31, ul3⟩ := U3.out.facts2
  obtain ⟨q30, q31, ql3⟩ := Q3.out.facts2
  have uf30 := U3.out.frozen 0
  have uf31 := U3.out.frozen 1
  have qf30 := Q3.out.frozen 0
  have qf31 := Q3.out.frozen 1
  rw [HX.out]
  have U9 : Blk ((w3.setCell ⟨w1.heap.size, 0, none⟩ (.int .i64 x)).setCell ⟨w1.heap.size, 1, none⟩ (.int .i64 1)) w1.heap.size 23 #[.int .i64 x, .int .i64 1] := (U3.out.set_ 0 _).set_ 1 _
  go_wp2_with (fail)
  obtain ⟨wb, hwb⟩ : ∃ wb, (w3.setCell ⟨w1.heap.size, 0, none⟩ (.int .i64 x)).setCell ⟨w1.heap.size, 1, none⟩ (.int .i64 1) = wb := ⟨_, rfl⟩
  rw [hwb] at U9
  have Q9 : Blk wb w.heap.size 23 #[.int .i64 0, .int .i64 0] := by rw [← hwb]; exact (Q3.out.far (NE.out) _).far (NE.out) _
  have P9 : Only [] w wb := by rw [← hwb]; exact (P3.out.setCell (.inr LE.out) _).setCell (.inr LE.out) _
  rw [hwb]
  clear hwb
  have U4 := Lib.hid U9
  have Q4 := Lib.hid Q9
  have P4 := Lib.hid P9
  clear U9 Q9 P9
  refine (rightr (a := (x, 1)) HO.out HR.out _).mono ?_
  rintro e w5 ⟨rfl, o⟩
  have U5 := Lib.hid (o.blk U4.out (by simp))
  have Q5 := Lib.hid (o.blk Q4.out (by simp))
  have P5 := Lib.hid (P4.out.trans o (by simp))
  clear o U4 Q4 P4
  obtain ⟨u50, u51, ul5⟩ := U5.out.facts2
  obtain ⟨q50, q51, ql5⟩ := Q5.out.facts2
  have qf50 := Q5.out.frozen 0
  have qf51 := Q5.out.frozen 1
  go_wp2_with (fail)
  refine (text_any (x, 1) HO.out (HT.out.only P5.out)).mono ?_
  rintro e w6 ⟨rfl, o⟩
  have U6 := Lib.hid (o.blk U5.out (by simp))
  have Q6 := Lib.hid (o.blk Q5.out (by simp))
  have P6 := Lib.hid (P5.out.trans o (by simp))
  clear o U5 Q5 P5
  obtain ⟨u60, u61, ul6⟩ := U6.out.facts2
  obtain ⟨q60, q61, ql6⟩ := Q6.out.facts2
  have uf60 := U6.out.frozen 0
  have uf61 := U6.out.frozen 1
  have qf60 := Q6.out.frozen 0
  have qf61 := Q6.out.frozen 1
  go_wp2_with (fail)
  exact bodyPost_ret (v := .tuple #[.agg #[.int .i64 0, .int .i64 0], .int .i64 6]) (by simp [results, Tryd.results28, go_sem, q60, q61]) rfl ⟨rfl, only_two P6.out (by simp) (by simp) _ _⟩

set_option maxHeartbeats 2000000 in
theorem read_one_k (l : List UInt8) (hl : l.length ≤ 10000) {w : World} (ht : Tab10 w) (hE : Errs w) {mm : Int} (hm : w.cell? ⟨2, 0, none⟩ = some (.int .i64 mm)) (hn : (l == [110, 101, 118, 101, 114]) = false) (hc : Lib.cut l [47] = (l, [], false)) {x : Int} (hx : numb l = x) (ho : Tm.ok (x, 1)) (hr : Tm.right (x, 1) = true) (hT : (textT (x, 1) == l) = true) :
    Calls Tryd.prog 28 #[.string ⟨l.toArray⟩] w fun e w' => e = .returned (.tuple #[.agg #[.int .i64 x, .int .i64 1], .int .i64 0]) ∧ Only [] w w' := by
  have HT := Lib.hid ht
  have HE := Lib.hid hE
  have HM := Lib.hid hm
  have HC := Lib.hid hc
  have HX := Lib.hid hx
  have HR := Lib.hid hr
  have HO := Lib.hid ho
  have lmt := Lib.hid (World.block_lt_of_cell? w ⟨2, 0, none⟩ hm)
  clear ht hE hm hc hx hr ho
  have T0 := Lib.hid (Blk.new w 23 #[.int .i64 0, .int .i64 0])
  go_enter Tryd.func28, Tryd.ntmps28
  go_wp2_with (fail)
  refine (never_any _).mono ?_
  rintro e w1 ⟨rfl, o1⟩
  have T1 := Lib.hid (o1.blk T0.out (by simp))
  have O1 := Lib.hid (((Only.refl [] w).alloc (.cells #[.int .i64 0, .int .i64 0] 23)).trans o1 (by simp))
  clear o1 T0
  have U1 := Lib.hid (Blk.new w1 23 #[.int .i64 1, .int .i64 0])
  have Q1 := Lib.hid (T1.out.alloc (.cells #[.int .i64 1, .int .i64 0] 23))
  have P1 := Lib.hid (O1.out.alloc (.cells #[.int .i64 1, .int .i64 0] 23))
  have T1L := Lib.hid T1.out.lt
  have T1LT := Lib.hid (Nat.ne_of_lt T1.out.lt)
  clear T1 O1
  have NE := Lib.hid (show w.heap.size ≠ w1.heap.size from T1LT.out)
  have LE := Lib.hid (show w.heap.size ≤ w1.heap.size from Nat.le_of_lt T1L.out)
  have m1 := (P1.out.cell (p := ⟨2, 0, none⟩) lmt.out (by simp)).trans HM.out
  go_wp2_with (fail)
  refine (cut_any l (by omega) _ m1).mono ?_
  rintro e w2 ⟨rfl, o⟩
  have U2 := Lib.hid (o.blk U1.out (by simp))
  have Q2 := Lib.hid (o.blk Q1.out (by simp))
  have P2 := Lib.hid (P1.out.trans o (by simp))
  clear o U1 Q1 P1
  obtain ⟨u20, u21, ul2⟩ := U2.out.facts2
  obtain ⟨q20, q21, ql2⟩ := Q2.out.facts2
  have uf20 := U2.out.frozen 0
  have uf21 := U2.out.frozen 1
  have qf20 := Q2.out.frozen 0
  have qf21 := Q2.out.frozen 1
  clear m1
  rw [HC.out]
  go_wp2_with (fail)
  refine (number_any l (by omega) (HE.out.only P2.out)).mono ?_
  rintro e w3 ⟨rfl, o⟩
  have U3 := Lib.hid (o.blk U2.out (by simp))
  have Q3 := Lib.hid (o.blk Q2.out (by simp))
  have P3 := Lib.hid (P2.out.trans o (by simp))
  clear o U2 Q2 P2
  obtain ⟨u30, u31, ul3⟩ := U3.out.facts2
  obtain ⟨q30, q31, ql3⟩ := Q3.out.facts2
  have uf30 := U3.out.frozen 0
  have uf31 := U3.out.frozen 1
  have qf30 := Q3.out.frozen 0
  have qf31 := Q3.out.frozen 1
  rw [HX.out]
  have U9 : Blk ((w3.setCell ⟨w1.heap.size, 0, none⟩ (.int .i64 x)).setCell ⟨w1.heap.size, 1, none⟩ (.int .i64 1)) w1.heap.size 23 #[.int .i64 x, .int .i64 1] := (U3.out.set_ 0 _).set_ 1 _
  go_wp2_with (fail)
  obtain ⟨wb, hwb⟩ : ∃ wb, (w3.setCell ⟨w1.heap.size, 0, none⟩ (.int .i64 x)).setCell ⟨w1.heap.size, 1, none⟩ (.int .i64 1) = wb := ⟨_, rfl⟩
  rw [hwb] at U9
  have Q9 : Blk wb w.heap.size 23 #[.int .i64 0, .int .i64 0] := by rw [← hwb]; exact (Q3.out.far (NE.out) _).far (NE.out) _
  have P9 : Only [] w wb := by rw [← hwb]; exact (P3.out.setCell (.inr LE.out) _).setCell (.inr LE.out) _
  rw [hwb]
  clear hwb
  have U4 := Lib.hid U9
  have Q4 := Lib.hid Q9
  have P4 := Lib.hid P9
  clear U9 Q9 P9
  refine (rightr (a := (x, 1)) HO.out HR.out _).mono ?_
  rintro e w5 ⟨rfl, o⟩
  have U5 := Lib.hid (o.blk U4.out (by simp))
  have Q5 := Lib.hid (o.blk Q4.out (by simp))
  have P5 := Lib.hid (P4.out.trans o (by simp))
  clear o U4 Q4 P4
  obtain ⟨u50, u51, ul5⟩ := U5.out.facts2
  obtain ⟨q50, q51, ql5⟩ := Q5.out.facts2
  have qf50 := Q5.out.frozen 0
  have qf51 := Q5.out.frozen 1
  go_wp2_with (fail)
  refine (text_any (x, 1) HO.out (HT.out.only P5.out)).mono ?_
  rintro e w6 ⟨rfl, o⟩
  have U6 := Lib.hid (o.blk U5.out (by simp))
  have Q6 := Lib.hid (o.blk Q5.out (by simp))
  have P6 := Lib.hid (P5.out.trans o (by simp))
  clear o U5 Q5 P5
  obtain ⟨u60, u61, ul6⟩ := U6.out.facts2
  obtain ⟨q60, q61, ql6⟩ := Q6.out.facts2
  have uf60 := U6.out.frozen 0
  have uf61 := U6.out.frozen 1
  have qf60 := Q6.out.frozen 0
  have qf61 := Q6.out.frozen 1
  go_wp2_with (fail)
  exact bodyPost_ret (v := .tuple #[.agg #[.int .i64 x, .int .i64 1], .int .i64 0]) (by simp [results, Tryd.results28, go_sem, q60, q61]) rfl ⟨rfl, only_two P6.out (by simp) (by simp) _ _⟩

set_option maxHeartbeats 2000000 in
theorem read_two_w (l : List UInt8) (hl : l.length ≤ 10000) {w : World} (ht : Tab10 w) (hE : Errs w) {mm : Int} (hm : w.cell? ⟨2, 0, none⟩ = some (.int .i64 mm)) (hn : (l == [110, 101, 118, 101, 114]) = false) (hc : Lib.cut l [47] = (l.take (slash l), l.drop (slash l + 1), true)) {x y : Int} (hx : numb (l.take (slash l)) = x) (hy : numb (l.drop (slash l + 1)) = y) (ho : Tm.ok (x, y)) (hr : Tm.right (x, y) = false) :
    Calls Tryd.prog 28 #[.string ⟨l.toArray⟩] w fun e w' => e = .returned (.tuple #[.agg #[.int .i64 0, .int .i64 0], .int .i64 6]) ∧ Only [] w w' := by
  have HT := Lib.hid ht
  have HE := Lib.hid hE
  have HM := Lib.hid hm
  have HC := Lib.hid hc
  have HX := Lib.hid hx
  have HR := Lib.hid hr
  have HO := Lib.hid ho
  have HY := Lib.hid hy
  have lmt := Lib.hid (World.block_lt_of_cell? w ⟨2, 0, none⟩ hm)
  clear ht hE hm hc hx hr ho hy
  have T0 := Lib.hid (Blk.new w 23 #[.int .i64 0, .int .i64 0])
  go_enter Tryd.func28, Tryd.ntmps28
  go_wp2_with (fail)
  refine (never_any _).mono ?_
  rintro e w1 ⟨rfl, o1⟩
  have T1 := Lib.hid (o1.blk T0.out (by simp))
  have O1 := Lib.hid (((Only.refl [] w).alloc (.cells #[.int .i64 0, .int .i64 0] 23)).trans o1 (by simp))
  clear o1 T0
  have U1 := Lib.hid (Blk.new w1 23 #[.int .i64 1, .int .i64 0])
  have Q1 := Lib.hid (T1.out.alloc (.cells #[.int .i64 1, .int .i64 0] 23))
  have P1 := Lib.hid (O1.out.alloc (.cells #[.int .i64 1, .int .i64 0] 23))
  have T1L := Lib.hid T1.out.lt
  have T1LT := Lib.hid (Nat.ne_of_lt T1.out.lt)
  clear T1 O1
  have NE := Lib.hid (show w.heap.size ≠ w1.heap.size from T1LT.out)
  have LE := Lib.hid (show w.heap.size ≤ w1.heap.size from Nat.le_of_lt T1L.out)
  have m1 := (P1.out.cell (p := ⟨2, 0, none⟩) lmt.out (by simp)).trans HM.out
  go_wp2_with (fail)
  refine (cut_any l (by omega) _ m1).mono ?_
  rintro e w2 ⟨rfl, o⟩
  have U2 := Lib.hid (o.blk U1.out (by simp))
  have Q2 := Lib.hid (o.blk Q1.out (by simp))
  have P2 := Lib.hid (P1.out.trans o (by simp))
  clear o U1 Q1 P1
  obtain ⟨u20, u21, ul2⟩ := U2.out.facts2
  obtain ⟨q20, q21, ql2⟩ := Q2.out.facts2
  have uf20 := U2.out.frozen 0
  have uf21 := U2.out.frozen 1
  have qf20 := Q2.out.frozen 0
  have qf21 := Q2.out.frozen 1
  clear m1
  rw [HC.out]
  go_wp2_with (fail)
  refine (number_any (l.take (slash l)) (by rw [List.length_take]; omega) (HE.out.only P2.out)).mono ?_
  rintro e w3 ⟨rfl, o⟩
  have U3 := Lib.hid (o.blk U2.out (by simp))
  have Q3 := Lib.hid (o.blk Q2.out (by simp))
  have P3 := Lib.hid (P2.out.trans o (by simp))
  clear o U2 Q2 P2
  obtain ⟨u30, u31, ul3⟩ := U3.out.facts2
  obtain ⟨q30, q31, ql3⟩ := Q3.out.facts2
  have uf30 := U3.out.frozen 0
  have uf31 := U3.out.frozen 1
  have qf30 := Q3.out.frozen 0
  have qf31 := Q3.out.frozen 1
  rw [HX.out]
  go_wp2_with (fail)
  have U8 : Blk ((w3.setCell ⟨w1.heap.size, 0, none⟩ (.int .i64 x)).setCell ⟨w1.heap.size, 1, none⟩ (.int .i64 1)) w1.heap.size 23 #[.int .i64 x, .int .i64 1] := (U3.out.set_ 0 _).set_ 1 _
  obtain ⟨wa, hwa⟩ : ∃ wa, (w3.setCell ⟨w1.heap.size, 0, none⟩ (.int .i64 x)).setCell ⟨w1.heap.size, 1, none⟩ (.int .i64 1) = wa := ⟨_, rfl⟩
  rw [hwa] at U8
  have Q8 : Blk wa w.heap.size 23 #[.int .i64 0, .int .i64 0] := by rw [← hwa]; exact (Q3.out.far (NE.out) _).far (NE.out) _
  have P8 : Only [] w wa := by rw [← hwa]; exact (P3.out.setCell (.inr LE.out) _).setCell (.inr LE.out) _
  rw [hwa]
  refine (number_any (l.drop (slash l + 1)) (by rw [List.length_drop]; omega) (HE.out.only P8)).mono ?_
  rintro e wc ⟨rfl, o⟩
  rw [HY.out]
  have U9 : Blk (wc.setCell ⟨w1.heap.size, 1, none⟩ (.int .i64 y)) w1.heap.size 23 #[.int .i64 x, .int .i64 y] := (o.blk U8 (by simp)).set_ 1 _
  have Q7 := o.blk Q8 (by simp)
  have P7 := P8.trans o (by simp)
  obtain ⟨a0, a1, al⟩ := (o.blk U8 (by simp)).facts2
  have af0 := (o.blk U8 (by simp)).frozen 0
  have af1 := (o.blk U8 (by simp)).frozen 1
  clear o U8 Q8 P8 hwa
  have HQ7 := Lib.hid Q7
  have HP7 := Lib.hid P7
  have HU9 := Lib.hid U9
  clear Q7 P7 U9
  go_wp2_with (fail)
  have U9 := HU9.out
  obtain ⟨wb, hwb⟩ : ∃ wb, wc.setCell ⟨w1.heap.size, 1, none⟩ (.int .i64 y) = wb := ⟨_, rfl⟩
  rw [hwb] at U9
  have Q9 : Blk wb w.heap.size 23 #[.int .i64 0, .int .i64 0] := by rw [← hwb]; exact HQ7.out.far (NE.out) _
  have P9 : Only [] w wb := by rw [← hwb]; exact HP7.out.setCell (.inr LE.out) _
  rw [hwb]
  clear HQ7 HP7 HU9
  clear hwb
  have U4 := Lib.hid U9
  have Q4 := Lib.hid Q9
  have P4 := Lib.hid P9
  clear U9 Q9 P9
  refine (rightr (a := (x, y)) HO.out HR.out _).mono ?_
  rintro e w5 ⟨rfl, o⟩
  have U5 := Lib.hid (o.blk U4.out (by simp))
  have Q5 := Lib.hid (o.blk Q4.out (by simp))
  have P5 := Lib.hid (P4.out.trans o (by simp))
  clear o U4 Q4 P4
  obtain ⟨u50, u51, ul5⟩ := U5.out.facts2
  obtain ⟨q50, q51, ql5⟩ := Q5.out.facts2
  have qf50 := Q5.out.frozen 0
  have qf51 := Q5.out.frozen 1
  go_wp2_with (fail)
  exact bodyPost_ret (v := .tuple #[.agg #[.int .i64 0, .int .i64 0], .int .i64 6]) (by simp [results, Tryd.results28, go_sem, q50, q51]) rfl ⟨rfl, only_two P5.out (by simp) (by simp) _ _⟩

set_option maxHeartbeats 2000000 in
theorem read_two_x (l : List UInt8) (hl : l.length ≤ 10000) {w : World} (ht : Tab10 w) (hE : Errs w) {mm : Int} (hm : w.cell? ⟨2, 0, none⟩ = some (.int .i64 mm)) (hn : (l == [110, 101, 118, 101, 114]) = false) (hc : Lib.cut l [47] = (l.take (slash l), l.drop (slash l + 1), true)) {x y : Int} (hx : numb (l.take (slash l)) = x) (hy : numb (l.drop (slash l + 1)) = y) (ho : Tm.ok (x, y)) (hr : Tm.right (x, y) = true) (hT : (textT (x, y) == l) = false) :
    Calls Tryd.prog 28 #[.string ⟨l.toArray⟩] w fun e w' => e = .returned (.tuple #[.agg #[.int .i64 0, .int .i64 0], .int .i64 6]) ∧ Only [] w w' := by
  have HT := Lib.hid ht
  have HE := Lib.hid hE
  have HM := Lib.hid hm
  have HC := Lib.hid hc
  have HX := Lib.hid hx
  have HR := Lib.hid hr
  have HO := Lib.hid ho
  have HY := Lib.hid hy
  have lmt := Lib.hid (World.block_lt_of_cell? w ⟨2, 0, none⟩ hm)
  clear ht hE hm hc hx hr ho hy
  have T0 := Lib.hid (Blk.new w 23 #[.int .i64 0, .int .i64 0])
  go_enter Tryd.func28, Tryd.ntmps28
  go_wp2_with (fail)
  refine (never_any _).mono ?_
  rintro e w1 ⟨rfl, o1⟩
  have T1 := Lib.hid (o1.blk T0.out (by simp))
  have O1 := Lib.hid (((Only.refl [] w).alloc (.cells #[.int .i64 0, .int .i64 0] 23)).trans o1 (by simp))
  clear o1 T0
  have U1 := Lib.hid (Blk.new w1 23 #[.int .i64 1, .int .i64 0])
  have Q1 := Lib.hid (T1.out.alloc (.cells #[.int .i64 1, .int .i64 0] 23))
  have P1 := Lib.hid (O1.out.alloc (.cells #[.int .i64 1, .int .i64 0] 23))
  have T1L := Lib.hid T1.out.lt
  have T1LT := Lib.hid (Nat.ne_of_lt T1.out.lt)
  clear T1 O1
  have NE := Lib.hid (show w.heap.size ≠ w1.heap.size from T1LT.out)
  have LE := Lib.hid (show w.heap.size ≤ w1.heap.size from Nat.le_of_lt T1L.out)
  have m1 := (P1.out.cell (p := ⟨2, 0, none⟩) lmt.out (by simp)).trans HM.out
  go_wp2_with (fail)
  refine (cut_any l (by omega) _ m1).mono ?_
  rintro e w2 ⟨rfl, o⟩
  have U2 := Lib.hid (o.blk U1.out (by simp))
  have Q2 := Lib.hid (o.blk Q1.out (by simp))
  have P2 := Lib.hid (P1.out.trans o (by simp))
  clear o U1 Q1 P1
  obtain ⟨u20, u21, ul2⟩ := U2.out.facts2
  obtain ⟨q20, q21, ql2⟩ := Q2.out.facts2
  have uf20 := U2.out.frozen 0
  have uf21 := U2.out.frozen 1
  have qf20 := Q2.out.frozen 0
  have qf21 := Q2.out.frozen 1
  clear m1
  rw [HC.out]
  go_wp2_with (fail)
  refine (number_any (l.take (slash l)) (by rw [List.length_take]; omega) (HE.out.only P2.out)).mono ?_
  rintro e w3 ⟨rfl, o⟩
  have U3 := Lib.hid (o.blk U2.out (by simp))
  have Q3 := Lib.hid (o.blk Q2.out (by simp))
  have P3 := Lib.hid (P2.out.trans o (by simp))
  clear o U2 Q2 P2
  obtain ⟨u30, u31, ul3⟩ := U3.out.facts2
  obtain ⟨q30, q31, ql3⟩ := Q3.out.facts2
  have uf30 := U3.out.frozen 0
  have uf31 := U3.out.frozen 1
  have qf30 := Q3.out.frozen 0
  have qf31 := Q3.out.frozen 1
  rw [HX.out]
  go_wp2_with (fail)
  have U8 : Blk ((w3.setCell ⟨w1.heap.size, 0, none⟩ (.int .i64 x)).setCell ⟨w1.heap.size, 1, none⟩ (.int .i64 1)) w1.heap.size 23 #[.int .i64 x, .int .i64 1] := (U3.out.set_ 0 _).set_ 1 _
  obtain ⟨wa, hwa⟩ : ∃ wa, (w3.setCell ⟨w1.heap.size, 0, none⟩ (.int .i64 x)).setCell ⟨w1.heap.size, 1, none⟩ (.int .i64 1) = wa := ⟨_, rfl⟩
  rw [hwa] at U8
  have Q8 : Blk wa w.heap.size 23 #[.int .i64 0, .int .i64 0] := by rw [← hwa]; exact (Q3.out.far (NE.out) _).far (NE.out) _
  have P8 : Only [] w wa := by rw [← hwa]; exact (P3.out.setCell (.inr LE.out) _).setCell (.inr LE.out) _
  rw [hwa]
  refine (number_any (l.drop (slash l + 1)) (by rw [List.length_drop]; omega) (HE.out.only P8)).mono ?_
  rintro e wc ⟨rfl, o⟩
  rw [HY.out]
  have U9 : Blk (wc.setCell ⟨w1.heap.size, 1, none⟩ (.int .i64 y)) w1.heap.size 23 #[.int .i64 x, .int .i64 y] := (o.blk U8 (by simp)).set_ 1 _
  have Q7 := o.blk Q8 (by simp)
  have P7 := P8.trans o (by simp)
  obtain ⟨a0, a1, al⟩ := (o.blk U8 (by simp)).facts2
  have af0 := (o.blk U8 (by simp)).frozen 0
  have af1 := (o.blk U8 (by simp)).frozen 1
  clear o U8 Q8 P8 hwa
  have HQ7 := Lib.hid Q7
  have HP7 := Lib.hid P7
  have HU9 := Lib.hid U9
  clear Q7 P7 U9
  go_wp2_with (fail)
  have U9 := HU9.out
  obtain ⟨wb, hwb⟩ : ∃ wb, wc.setCell ⟨w1.heap.size, 1, none⟩ (.int .i64 y) = wb := ⟨_, rfl⟩
  rw [hwb] at U9
  have Q9 : Blk wb w.heap.size 23 #[.int .i64 0, .int .i64 0] := by rw [← hwb]; exact HQ7.out.far (NE.out) _
  have P9 : Only [] w wb := by rw [← hwb]; exact HP7.out.setCell (.inr LE.out) _
  rw [hwb]
  clear HQ7 HP7 HU9
  clear hwb
  have U4 := Lib.hid U9
  have Q4 := Lib.hid Q9
  have P4 := Lib.hid P9
  clear U9 Q9 P9
  refine (rightr (a := (x, y)) HO.out HR.out _).mono ?_
  rintro e w5 ⟨rfl, o⟩
  have U5 := Lib.hid (o.blk U4.out (by simp))
  have Q5 := Lib.hid (o.blk Q4.out (by simp))
  have P5 := Lib.hid (P4.out.trans o (by simp))
  clear o U4 Q4 P4
  obtain ⟨u50, u51, ul5⟩ := U5.out.facts2
  obtain ⟨q50, q51, ql5⟩ := Q5.out.facts2
  have qf50 := Q5.out.frozen 0
  have qf51 := Q5.out.frozen 1
  go_wp2_with (fail)
  refine (text_any (x, y) HO.out (HT.out.only P5.out)).mono ?_
  rintro e w6 ⟨rfl, o⟩
  have U6 := Lib.hid (o.blk U5.out (by simp))
  have Q6 := Lib.hid (o.blk Q5.out (by simp))
  have P6 := Lib.hid (P5.out.trans o (by simp))
  clear o U5 Q5 P5
  obtain ⟨u60, u61, ul6⟩ := U6.out.facts2
  obtain ⟨q60, q61, ql6⟩ := Q6.out.facts2
  have uf60 := U6.out.frozen 0
  have uf61 := U6.out.frozen 1
  have qf60 := Q6.out.frozen 0
  have qf61 := Q6.out.frozen 1
  go_wp2_with (fail)
  exact bodyPost_ret (v := .tuple #[.agg #[.int .i64 0, .int .i64 0], .int .i64 6]) (by simp [results, Tryd.results28, go_sem, q60, q61]) rfl ⟨rfl, only_two P6.out (by simp) (by simp) _ _⟩

set_option maxHeartbeats 2000000 in
theorem read_two_k (l : List UInt8) (hl : l.length ≤ 10000) {w : World} (ht : Tab10 w) (hE : Errs w) {mm : Int} (hm : w.cell? ⟨2, 0, none⟩ = some (.int .i64 mm)) (hn : (l == [110, 101, 118, 101, 114]) = false) (hc : Lib.cut l [47] = (l.take (slash l), l.drop (slash l + 1), true)) {x y : Int} (hx : numb (l.take (slash l)) = x) (hy : numb (l.drop (slash l + 1)) = y) (ho : Tm.ok (x, y)) (hr : Tm.right (x, y) = true) (hT : (textT (x, y) == l) = true) :
    Calls Tryd.prog 28 #[.string ⟨l.toArray⟩] w fun e w' => e = .returned (.tuple #[.agg #[.int .i64 x, .int .i64 y], .int .i64 0]) ∧ Only [] w w' := by
  have HT := Lib.hid ht
  have HE := Lib.hid hE
  have HM := Lib.hid hm
  have HC := Lib.hid hc
  have HX := Lib.hid hx
  have HR := Lib.hid hr
  have HO := Lib.hid ho
  have HY := Lib.hid hy
  have lmt := Lib.hid (World.block_lt_of_cell? w ⟨2, 0, none⟩ hm)
  clear ht hE hm hc hx hr ho hy
  have T0 := Lib.hid (Blk.new w 23 #[.int .i64 0, .int .i64 0])
  go_enter Tryd.func28, Tryd.ntmps28
  go_wp2_with (fail)
  refine (never_any _).mono ?_
  rintro e w1 ⟨rfl, o1⟩
  have T1 := Lib.hid (o1.blk T0.out (by simp))
  have O1 := Lib.hid (((Only.refl [] w).alloc (.cells #[.int .i64 0, .int .i64 0] 23)).trans o1 (by simp))
  clear o1 T0
  have U1 := Lib.hid (Blk.new w1 23 #[.int .i64 1, .int .i64 0])
  have Q1 := Lib.hid (T1.out.alloc (.cells #[.int .i64 1, .int .i64 0] 23))
  have P1 := Lib.hid (O1.out.alloc (.cells #[.int .i64 1, .int .i64 0] 23))
  have T1L := Lib.hid T1.out.lt
  have T1LT := Lib.hid (Nat.ne_of_lt T1.out.lt)
  clear T1 O1
  have NE := Lib.hid (show w.heap.size ≠ w1.heap.size from T1LT.out)
  have LE := Lib.hid (show w.heap.size ≤ w1.heap.size from Nat.le_of_lt T1L.out)
  have m1 := (P1.out.cell (p := ⟨2, 0, none⟩) lmt.out (by simp)).trans HM.out
  go_wp2_with (fail)
  refine (cut_any l (by omega) _ m1).mono ?_
  rintro e w2 ⟨rfl, o⟩
  have U2 := Lib.hid (o.blk U1.out (by simp))
  have Q2 := Lib.hid (o.blk Q1.out (by simp))
  have P2 := Lib.hid (P1.out.trans o (by simp))
  clear o U1 Q1 P1
  obtain ⟨u20, u21, ul2⟩ := U2.out.facts2
  obtain ⟨q20, q21, ql2⟩ := Q2.out.facts2
  have uf20 := U2.out.frozen 0
  have uf21 := U2.out.frozen 1
  have qf20 := Q2.out.frozen 0
  have qf21 := Q2.out.frozen 1
  clear m1
  rw [HC.out]
  go_wp2_with (fail)
  refine (number_any (l.take (slash l)) (by rw [List.length_take]; omega) (HE.out.only P2.out)).mono ?_
  rintro e w3 ⟨rfl, o⟩
  have U3 := Lib.hid (o.blk U2.out (by simp))
  have Q3 := Lib.hid (o.blk Q2.out (by simp))
  have P3 := Lib.hid (P2.out.trans o (by simp))
  clear o U2 Q2 P2
  obtain ⟨u30, u31, ul3⟩ := U3.out.facts2
  obtain ⟨q30, q31, ql3⟩ := Q3.out.facts2
  have uf30 := U3.out.frozen 0
  have uf31 := U3.out.frozen 1
  have qf30 := Q3.out.frozen 0
  have qf31 := Q3.out.frozen 1
  rw [HX.out]
  go_wp2_with (fail)
  have U8 : Blk ((w3.setCell ⟨w1.heap.size, 0, none⟩ (.int .i64 x)).setCell ⟨w1.heap.size, 1, none⟩ (.int .i64 1)) w1.heap.size 23 #[.int .i64 x, .int .i64 1] := (U3.out.set_ 0 _).set_ 1 _
  obtain ⟨wa, hwa⟩ : ∃ wa, (w3.setCell ⟨w1.heap.size, 0, none⟩ (.int .i64 x)).setCell ⟨w1.heap.size, 1, none⟩ (.int .i64 1) = wa := ⟨_, rfl⟩
  rw [hwa] at U8
  have Q8 : Blk wa w.heap.size 23 #[.int .i64 0, .int .i64 0] := by rw [← hwa]; exact (Q3.out.far (NE.out) _).far (NE.out) _
  have P8 : Only [] w wa := by rw [← hwa]; exact (P3.out.setCell (.inr LE.out) _).setCell (.inr LE.out) _
  rw [hwa]
  refine (number_any (l.drop (slash l + 1)) (by rw [List.length_drop]; omega) (HE.out.only P8)).mono ?_
  rintro e wc ⟨rfl, o⟩
  rw [HY.out]
  have U9 : Blk (wc.setCell ⟨w1.heap.size, 1, none⟩ (.int .i64 y)) w1.heap.size 23 #[.int .i64 x, .int .i64 y] := (o.blk U8 (by simp)).set_ 1 _
  have Q7 := o.blk Q8 (by simp)
  have P7 := P8.trans o (by simp)
  obtain ⟨a0, a1, al⟩ := (o.blk U8 (by simp)).facts2
  have af0 := (o.blk U8 (by simp)).frozen 0
  have af1 := (o.blk U8 (by simp)).frozen 1
  clear o U8 Q8 P8 hwa
  have HQ7 := Lib.hid Q7
  have HP7 := Lib.hid P7
  have HU9 := Lib.hid U9
  clear Q7 P7 U9
  go_wp2_with (fail)
  have U9 := HU9.out
  obtain ⟨wb, hwb⟩ : ∃ wb, wc.setCell ⟨w1.heap.size, 1, none⟩ (.int .i64 y) = wb := ⟨_, rfl⟩
  rw [hwb] at U9
  have Q9 : Blk wb w.heap.size 23 #[.int .i64 0, .int .i64 0] := by rw [← hwb]; exact HQ7.out.far (NE.out) _
  have P9 : Only [] w wb := by rw [← hwb]; exact HP7.out.setCell (.inr LE.out) _
  rw [hwb]
  clear HQ7 HP7 HU9
  clear hwb
  have U4 := Lib.hid U9
  have Q4 := Lib.hid Q9
  have P4 := Lib.hid P9
  clear U9 Q9 P9
  refine (rightr (a := (x, y)) HO.out HR.out _).mono ?_
  rintro e w5 ⟨rfl, o⟩
  have U5 := Lib.hid (o.blk U4.out (by simp))
  have Q5 := Lib.hid (o.blk Q4.out (by simp))
  have P5 := Lib.hid (P4.out.trans o (by simp))
  clear o U4 Q4 P4
  obtain ⟨u50, u51, ul5⟩ := U5.out.facts2
  obtain ⟨q50, q51, ql5⟩ := Q5.out.facts2
  have qf50 := Q5.out.frozen 0
  have qf51 := Q5.out.frozen 1
  go_wp2_with (fail)
  refine (text_any (x, y) HO.out (HT.out.only P5.out)).mono ?_
  rintro e w6 ⟨rfl, o⟩
  have U6 := Lib.hid (o.blk U5.out (by simp))
  have Q6 := Lib.hid (o.blk Q5.out (by simp))
  have P6 := Lib.hid (P5.out.trans o (by simp))
  clear o U5 Q5 P5
  obtain ⟨u60, u61, ul6⟩ := U6.out.facts2
  obtain ⟨q60, q61, ql6⟩ := Q6.out.facts2
  have uf60 := U6.out.frozen 0
  have uf61 := U6.out.frozen 1
  have qf60 := Q6.out.frozen 0
  have qf61 := Q6.out.frozen 1
  go_wp2_with (fail)
  exact bodyPost_ret (v := .tuple #[.agg #[.int .i64 x, .int .i64 y], .int .i64 0]) (by simp [results, Tryd.results28, go_sem, q60, q61]) rfl ⟨rfl, only_two P6.out (by simp) (by simp) _ _⟩
theorem read_any (l : List UInt8) (hl : l.length ≤ 10000) {w : World} (ht : Tab10 w) (hE : Errs w) {mm : Int} (hm : w.cell? ⟨2, 0, none⟩ = some (.int .i64 mm)) :
    Calls Tryd.prog 28 #[.string ⟨l.toArray⟩] w fun e w' => e = .returned (.tuple #[.agg #[.int .i64 (readT l).1.1, .int .i64 (readT l).1.2], .int .i64 (readT l).2]) ∧ Only [] w w' := by
  unfold readT
  by_cases hn : l = neverS
  · rw [if_pos hn, hn]; exact read_never w ht
  · rw [if_neg hn]
    have hn' : (l == [110, 101, 118, 101, 114]) = false := by simpa [neverS] using hn
    have hc := cut_slash l
    by_cases hs : slash l < l.length
    · rw [if_pos hs] at hc
      rw [if_pos hs]
      have ho : Tm.ok (numb (l.take (slash l)), numb (l.drop (slash l + 1))) := ⟨numb_ok _, numb_ok _⟩
      by_cases hr : Tm.right (numb (l.take (slash l)), numb (l.drop (slash l + 1))) = true
      · by_cases hT : textT (numb (l.take (slash l)), numb (l.drop (slash l + 1))) = l
        · rw [if_pos ⟨hr, hT⟩]
          exact read_two_k l hl ht hE hm hn' hc rfl rfl ho hr (by simpa using hT)
        · rw [if_neg (fun h => hT h.2)]
          exact read_two_x l hl ht hE hm hn' hc rfl rfl ho hr (by simpa using hT)
      · rw [if_neg (fun h => hr h.1)]
        exact read_two_w l hl ht hE hm hn' hc rfl rfl ho (by simpa using hr)
    · rw [if_neg hs] at hc
      have hle : slash l = l.length := Nat.le_antisymm List.findIdx_le_length (by omega)
      rw [if_neg hs, hle, List.take_length]
      have ho : Tm.ok (numb l, 1) := ⟨numb_ok _, by simp only; unfold I64; omega⟩
      by_cases hr : Tm.right (numb l, 1) = true
      · by_cases hT : textT (numb l, 1) = l
        · rw [if_pos ⟨hr, hT⟩]
          exact read_one_k l hl ht hE hm hn' hc rfl ho hr (by simpa using hT)
        · rw [if_neg (fun h => hT h.2)]
          exact read_one_x l hl ht hE hm hn' hc rfl ho hr (by simpa using hT)
      · rw [if_neg (fun h => hr h.1)]
        exact read_one_w l hl ht hE hm hn' hc rfl ho (by simpa using hr)
end Go.Proofs.YtgfmahfdkiblbaaDoor
