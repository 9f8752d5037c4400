/- The law's awake: true. -/
import Derived.Test.YtgfmahfdkiblbaaDoorPlain
import Derived.Test.YtgfmahfdkiblbaaDoorShelf
namespace Go.Proofs.YtgfmahfdkiblbaaDoor
open Go.RowKit Go.Kx
set_option maxRecDepth 20000

theorem itoa_3 (w : World) : Calls Tryd.prog 45 #[.int .i64 3] w fun e w' => e = .returned (.string ⟨#[51]⟩) ∧ w' = w := by
  have h := Tryd.strconv_Itoa_small 3 (by omega) w
  rw [show Lib.decDigits 3 = [51] by decide +kernel] at h
  exact h
theorem itoa_2 (w : World) : Calls Tryd.prog 45 #[.int .i64 2] w fun e w' => e = .returned (.string ⟨#[50]⟩) ∧ w' = w := by
  have h := Tryd.strconv_Itoa_small 2 (by omega) w
  rw [show Lib.decDigits 2 = [50] by decide +kernel] at h
  exact h
theorem right_32 : rightB 3 2 = true := by decide

set_option maxHeartbeats 1000000 in
theorem text_32 (w : World) : Calls Tryd.prog 27 #[.agg #[.int .i64 3, .int .i64 2]] w fun e w' => e = .returned (.string ⟨#[51, 47, 50]⟩) ∧ Only [] w w' := by
  have i3 : I64 3 := by unfold I64; omega
  have i2 : I64 2 := by unfold I64; omega
  go_enter Tryd.func27, Tryd.ntmps27
  go_wp2_with (fail)
  refine (right_t i3 i2 right_32 _).mono ?_
  rintro e w1 ⟨rfl, o1⟩
  have p := o1.blk (Blk.new w 23 #[.int .i64 3, .int .i64 2]) (by simp)
  have c0 := p.cell 0
  have c1 := p.cell 1
  simp at c0 c1
  have O1 := Lib.hid o1
  clear o1 p
  go_wp2_with (fail)
  go_quiet ((first | (go_at_call 45; exact Calls.quiet_of_same (itoa_3 _)) | (go_at_call 45; exact Calls.quiet_of_same (itoa_2 _))))
  go_wp2_with (fail)
  go_ret
  exact ⟨rfl, (Only.trans ((Only.refl [] w).alloc _) O1.out (by simp)).drewN _⟩

theorem make_64 (w : World) : Calls Tryd.prog 18 #[.int .i64 6, .int .i64 4] w fun e w' => e = .returned (.tuple #[.agg #[.int .i64 3, .int .i64 2], .int .i64 0]) ∧ Only [] w w' := by
  have h := make_any 6 4 (by omega) (by omega) w
  rw [show makeV 6 4 = .tuple #[.agg #[.int .i64 3, .int .i64 2], .int .i64 0] by rfl] at h
  exact h
theorem cmp_32 (w : World) : Calls Tryd.prog 16 #[.agg #[.int .i64 3, .int .i64 2], .agg #[.int .i64 1, .int .i64 0]] w fun e w' => e = .returned (.int .i64 (-1)) ∧ Only [] w w' := by
  have h := cmp_any (3, 2) (1, 0) (by unfold Tm.ok I64; omega) ok_never w
  rw [show cmpT (3, 2) (1, 0) = -1 by decide] at h
  exact h
theorem right_32c (w : World) : Calls Tryd.prog 14 #[.agg #[.int .i64 3, .int .i64 2]] w fun e w' => e = .returned (.bool true) ∧ Only [] w w' :=
  right_t (by unfold I64; omega) (by unfold I64; omega) right_32 w

set_option maxHeartbeats 2000000 in
theorem awake_any (w : World) : Calls Tryd.prog 13 #[] w fun e w' => e = .returned (.bool true) ∧ Only [] w w' := by
  go_enter Tryd.func13, Tryd.ntmps13
  go_wp2_with (fail)
  refine (make_64 _).mono ?_
  rintro e w1 ⟨rfl, o1⟩
  have O1 := Lib.hid o1
  clear o1
  go_wp2_with (fail)
  have P1 := Lib.hid (Blk.new w1 23 #[.int .i64 3, .int .i64 2])
  have n1 : w1.heap.size < w1.heap.size + 1 := by omega
  go_region_held3 (fun w' => w'.cell? ⟨w1.heap.size, 0, none⟩ = some (.int .i64 3) ∧ w'.cell? ⟨w1.heap.size, 1, none⟩ = some (.int .i64 2)) (first | (go_keep; done) | (refine ⟨?_, ?_⟩ <;> (go_simp; done)))
    (first
      | (go_at_call 27; refine (text_32 _).mono ?_; rintro e w2 ⟨rfl, o2⟩; have p2 := o2.blk (t := 23) (cs := #[.int .i64 3, .int .i64 2]) (g := w1.heap.size) (by first | exact P1.out | exact P1.out.drewN _) (by simp); have c20 := p2.cell 0; have c21 := p2.cell 1; simp at c20 c21; have P2 := Lib.hid p2; have O2 := Lib.hid o2; clear p2 o2)
      | (go_at_call 14; refine (right_32c _).mono ?_; rintro e w3 ⟨rfl, o3⟩; have p3 := o3.blk (t := 23) (cs := #[.int .i64 3, .int .i64 2]) (g := w1.heap.size) (by first | exact P2.out | exact P2.out.drewN _) (by simp); have c30 := p3.cell 0; have c31 := p3.cell 1; simp at c30 c31; have P3 := Lib.hid p3; have O3 := Lib.hid o3; clear p3 o3)
      | (go_at_call 22; refine (never_any _).mono ?_; rintro e w4 ⟨rfl, o4⟩; have p4 := o4.blk (t := 23) (cs := #[.int .i64 3, .int .i64 2]) (g := w1.heap.size) (by first | exact P3.out | exact P3.out.drewN _) (by simp); have c40 := p4.cell 0; have c41 := p4.cell 1; simp at c40 c41; have P4 := Lib.hid p4; have O4 := Lib.hid o4; clear p4 o4)
      | (go_at_call 16; refine (cmp_32 _).mono ?_; rintro e w5 ⟨rfl, o5⟩; have p5 := o5.blk (t := 23) (cs := #[.int .i64 3, .int .i64 2]) (g := w1.heap.size) (by first | exact P4.out | exact P4.out.drewN _) (by simp); have c50 := p5.cell 0; have c51 := p5.cell 1; simp at c50 c51; have P5 := Lib.hid p5; have O5 := Lib.hid o5; clear p5 o5))
  go_wp2_with (fail)
  go_ret
  exact ⟨rfl, ((((O1.out.alloc _).drew.trans O2.out (by simp)).trans O3.out (by simp)).trans O4.out (by simp)).trans O5.out (by simp)⟩

end Go.Proofs.YtgfmahfdkiblbaaDoor
