/- HeapNil. -/
import Derived.Test.YtodiemichniehaaCollect
namespace Go.Proofs.Ytodiemichniehaa
open Go.RowKit Go.Kx
set_option maxRecDepth 100000

theorem set_nil (k x : Int) (w : World) : Calls Try.prog 11 #[.pointer none, .int .i64 k, .int .i64 x] w fun e w' => e = .returned (.tuple #[]) ∧ Only [] w w' := by
  go_enter Try.func11, Try.ntmps11
  go_wp2_with (fail)
  refine bodyPost_ret (results_none rfl _ _ _) rfl ?_
  exact ⟨rfl, Only.refl _ _⟩
theorem get_nil (k : Int) (w : World) : Calls Try.prog 15 #[.pointer none, .int .i64 k] w fun e w' => e = .returned (.tuple #[.int .i64 0, .bool false]) ∧ Only [] w w' := by
  go_enter Try.func15, Try.ntmps15
  go_wp2_with (fail)
  go_ret2
  exact ⟨rfl, (Only.refl _ _).alloc _⟩
theorem del_nil (k : Int) (w : World) : Calls Try.prog 14 #[.pointer none, .int .i64 k] w fun e w' => e = .returned (.bool false) ∧ Only [] w w' := by
  go_enter Try.func14, Try.ntmps14
  go_wp2_with (fail)
  go_ret
  exact ⟨rfl, Only.refl _ _⟩
theorem min_nil (w : World) : Calls Try.prog 19 #[.pointer none] w fun e w' => e = .returned (.tuple #[.agg #[.int .i64 0, .int .i64 0], .bool false]) ∧ Only [] w w' := by
  go_enter Try.func19, Try.ntmps19
  go_wp2_with (fail)
  have hbn := Blk.new w 40 #[.int .i64 0, .int .i64 0]
  have o0 : Only [] w (w.alloc (.cells #[.int .i64 0, .int .i64 0] 40)) := (Only.refl [] w).alloc _
  refine (len_nil _).mono ?_
  rintro e w1 ⟨rfl, o1⟩
  obtain ⟨c0, c1, cl⟩ := (o1.blk hbn (by simp)).facts2
  have f0 := (o1.blk hbn (by simp)).frozen 0
  have f1 := (o1.blk hbn (by simp)).frozen 1
  have HBn := Lib.hid (o1.blk hbn (by simp))
  have HO := Lib.hid (o0.trans o1 (by simp))
  clear o0 o1 hbn
  go_wp2_with (fail)
  have hb2 := (HBn.out.set_ 0 (.int .i64 0)).set_ 1 (.int .i64 0)
  obtain ⟨e0, e1, el⟩ := Blk.facts2 (a := .int .i64 0) (b := .int .i64 0) hb2
  refine bodyPost_ret (v := .tuple #[.agg #[.int .i64 0, .int .i64 0], .bool false]) (by simp [results, Try.results19, go_sem, e0, e1]) rfl ⟨rfl, (HO.out.setCell (.inr (by simp)) _).setCell (.inr (by simp)) _⟩
theorem pop_nil (w : World) : Calls Try.prog 17 #[.pointer none] w fun e w' => e = .returned (.tuple #[.agg #[.int .i64 0, .int .i64 0], .bool false]) ∧ Only [] w w' := by
  have hbn := Blk.new w 40 #[.int .i64 0, .int .i64 0]
  have o0 : Only [] w (w.alloc (.cells #[.int .i64 0, .int .i64 0] 40)) := (Only.refl [] w).alloc _
  go_enter Try.func17, Try.ntmps17
  go_wp2_with (fail)
  refine (min_nil _).mono ?_
  rintro e w1 ⟨rfl, o1⟩
  have HB1 := Lib.hid (o1.blk hbn (by simp))
  obtain ⟨b0, b1, bl⟩ := HB1.out.facts2
  have fz0 := HB1.out.frozen 0
  have fz1 := HB1.out.frozen 1
  have HO := Lib.hid (o0.trans o1 (by simp))
  clear o0 o1 hbn
  go_wp2_with (fail)
  have hb2 := ((HB1.out.set_ 0 (.int .i64 0)).set_ 1 (.int .i64 0)).alloc (.cells #[.int .i64 0, .int .i64 0] 40)
  obtain ⟨e0, e1, el⟩ := Blk.facts2 (a := .int .i64 0) (b := .int .i64 0) hb2
  have oN := ((HO.out.setCell (p := ⟨w.heap.size, 0, none⟩) (.inr (by simp)) (.int .i64 0)).setCell (p := ⟨w.heap.size, 1, none⟩) (.inr (by simp)) (.int .i64 0)).alloc (.cells #[.int .i64 0, .int .i64 0] 40)
  exact bodyPost_ret (v := .tuple #[.agg #[.int .i64 0, .int .i64 0], .bool false]) (by simp [results, Try.results17, go_sem, e0, e1]) rfl ⟨rfl, oN⟩
set_option maxHeartbeats 2000000 in
theorem heapnil_any {k x : Int} {w : World} (_ : I64 k) (_ : I64 x) :
    Calls Try.prog 6 #[.int .i64 k, .int .i64 x] w fun e w' => e = .returned (.bool true) ∧ Only [] w w' := by
  have hP : ∀ W, (binOp .eql 24 (.pointer none) (.pointer none)).run Try.prog W = .ok (.bool true) W := fun W => by kernel_rfl
  go_enter Try.func6, Try.ntmps6
  go_wp2_with (fail)
  refine (set_nil k x w).mono ?_
  rintro e w1 ⟨rfl, o1⟩
  go_wp2_with (fail)
  refine (get_nil k _).mono ?_
  rintro e w2 ⟨rfl, o2⟩
  go_wp2_with (fail)
  refine (min_nil _).mono ?_
  rintro e w3 ⟨rfl, o3⟩
  have O3 := Lib.hid (((o1.trans o2 (by simp)).trans o3 (by simp)).alloc (.cells #[.int .i64 0, .int .i64 0] 40))
  clear o1 o2 o3
  go_wp2_with (fail)
  refine (pop_nil _).mono ?_
  rintro e w4 ⟨rfl, o4⟩
  have O4 := Lib.hid ((O3.out.trans o4 (by simp)).alloc (.cells #[.int .i64 0, .int .i64 0] 40))
  clear o4 O3
  go_wp2_with (fail)
  refine (awake_any _).mono ?_
  rintro e w5 ⟨rfl, o5⟩
  have O5 := Lib.hid (O4.out.trans o5 (by simp))
  clear o5 O4
  go_wp2_with (fail)
  refine (del_nil k _).mono ?_
  rintro e w6 ⟨rfl, o6⟩
  have O6 := Lib.hid (O5.out.trans o6 (by simp))
  clear o6 O5
  go_wp2_with (fail)
  refine (len_nil _).mono ?_
  rintro e w7 ⟨rfl, o7⟩
  have O7 := Lib.hid (O6.out.trans o7 (by simp))
  clear o7 O6
  go_wp2_with (fail)
  refine (all_any _ none rfl _).mono ?_
  rintro e w8 ⟨rfl, rfl⟩
  have hb8 := Blk.new w7 24 #[.pointer none]
  have o8 : Only [] w7 (w7.alloc (.cells #[.pointer none] 24)) := (Only.refl [] w7).alloc _
  have t9 := collect_any (all_seqs_nil hb8) (by simp)
  have O8 := Lib.hid (O7.out.trans o8 (by simp))
  clear hb8 o8 O7
  go_wp2_with (fail)
  refine t9.mono ?_
  clear t9
  rintro e w9 ⟨A9, c9, rfl, -, o9⟩
  have O9 := Lib.hid (O8.out.trans o9 (by simp))
  clear o9 O8
  go_wp2_with (fail)
  refine (new_none _).mono ?_
  rintro e w10 ⟨rfl, o10⟩
  have O10 := Lib.hid (O9.out.trans o10 (by simp))
  clear o10 O9
  go_wp2_with (fail)
  go_ret
  exact ⟨rfl, O10.out⟩
end Go.Proofs.Ytodiemichniehaa
