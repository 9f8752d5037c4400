/- Whether an expression is right, those within it aside. -/
import Derived.Test.YtfnacnlaphpflaaDoorNest
namespace Go.Proofs.YtfnacnlaphpflaaDoor
open Go.RowKit Go.Kx
set_option maxRecDepth 100000

def nilB (s : ByteArray) : Bool := s.toList.isEmpty
/-- just the fields that an expression may have -/
def fB (n : Int) (nm sb : ByteArray) (len : Nat) (b1 b2 b3 : Bool) (least most : Nat) : Bool :=
  (b1 || n == 0) && (b2 || nilB nm) && (b3 || nilB sb) && decide (least ≤ len) && decide (len ≤ most)
set_option maxHeartbeats 4000000 in
theorem fields_any (op n : Int) (nm sb : ByteArray) (A : Option Addr) (cap : Nat) (args : List Ex) (b1 b2 b3 : Bool) (least most : Nat) (w : World) :
    Calls Tryd.prog 81 #[.agg #[.int .i64 op, .int .i64 n, .string nm, .string sb, .slice A args.length cap], .bool b1, .bool b2, .bool b3, .int .i64 least, .int .i64 most] w fun r w' => r = .returned (.bool (fB n nm sb args.length b1 b2 b3 least most)) ∧ Only [] w w' := by
  have hbx := Blk.new w 24 #[.int .i64 op, .int .i64 n, .string nm, .string sb, .slice A args.length cap]
  have o0 : Only [] w (w.alloc (.cells #[.int .i64 op, .int .i64 n, .string nm, .string sb, .slice A args.length cap] 24)) := (Only.refl _ _).alloc _
  obtain ⟨c0, c1, c2, c3, c4, bl⟩ := hbx.facts5
  have HO := Lib.hid o0
  have HB := Lib.hid hbx
  clear o0 hbx
  go_enter Tryd.func81, Tryd.ntmps81
  cases b1 <;> cases b2 <;> cases b3
  all_goals
    go_wp2_with (fail)
  all_goals
    go_ret
    refine ⟨?_, (Only.refl _ _).alloc _⟩
    simp_all [fB, nilB]
    try (intro h; omega)
def nodeB (op n : Int) (nm sb : ByteArray) (len : Nat) : Bool :=
  if op = 0 then fB n nm sb len true false false 0 0 && decide (0 ≤ n)
  else if op = 1 ∨ op = 2 ∨ op = 11 then fB n nm sb len false false false 0 0
  else if op = 3 then fB n nm sb len false true false 0 0 && nameB nm
  else if op = 4 ∨ op = 7 ∨ op = 8 ∨ op = 9 then fB n nm sb len false true false 0 0 && nmB nm
  else if op = 5 then fB n nm sb len false true true 0 0 && nmB nm && nmB sb
  else if op = 6 then fB n nm sb len false false false 1 4
  else if op = 10 then fB n nm sb len false true false 1 1 && nmB nm
  else if op = 12 then fB n nm sb len true false false 1 1 && decide (0 ≤ n) && decide (n < 4)
  else if op = 13 ∨ op = 14 then fB n nm sb len false false false 1 1
  else if op = 25 then fB n nm sb len false false false 3 3
  else if 15 ≤ op ∧ op ≤ 24 then fB n nm sb len false false false 2 2
  else false
theorem cases26 (op : Int) : (0 ≤ op ∧ op ≤ 25) ∨ (op < 0 ∨ 25 < op) := by omega
set_option maxHeartbeats 2000000 in
theorem node0 (n : Int) (nm sb : ByteArray) (A : Option Addr) (cap : Nat) (args : List Ex) (w : World) (hW : WordsIs w) (_h2 : nm.size ≤ 9223372036854775807) (_h3 : sb.size ≤ 9223372036854775807) :
    Calls Tryd.prog 54 #[.agg #[.int .i64 0, .int .i64 n, .string nm, .string sb, .slice A args.length cap]] w fun r w' => r = .returned (.bool (nodeB 0 n nm sb args.length)) ∧ Only [] w w' := by
  have hbx := Blk.new w 24 #[.int .i64 0, .int .i64 n, .string nm, .string sb, .slice A args.length cap]
  have o0 : Only [] w (w.alloc (.cells #[.int .i64 0, .int .i64 n, .string nm, .string sb, .slice A args.length cap] 24)) := (Only.refl _ _).alloc _
  obtain ⟨c0, c1, c2, c3, c4, bl⟩ := hbx.facts5
  have HW := Lib.hid (hW.keep o0)
  have HO := Lib.hid o0
  have HB := Lib.hid hbx
  clear o0 hbx hW
  have he : nodeB 0 n nm sb args.length = (fB n nm sb args.length true false false 0 0 && decide (0 ≤ n)) := by simp [nodeB]
  have HE := Lib.hid he
  clear he
  go_enter Tryd.func54, Tryd.ntmps54
  go_wp2_with (fail)
  refine (fields_any 0 n nm sb A cap args true false false 0 0 _).mono ?_
  rintro r w3 ⟨rfl, o3⟩
  have HO3 := Lib.hid (HO.out.trans o3 (by simp))
  have HW3 := Lib.hid (HW.out.keep o3)
  obtain ⟨c0, c1, c2, c3, c4, bl⟩ := (o3.blk HB.out (by simp)).facts5
  have HB3 := Lib.hid (o3.blk HB.out (by simp))
  clear o3
  cases hf : fB n nm sb args.length true false false 0 0 with
  | false =>
    have HF := Lib.hid hf
    clear hf
    go_wp2_with (fail)
    go_ret
    exact ⟨by rw [HE.out, HF.out]; rfl, HO3.out⟩
  | true =>
    have HF := Lib.hid hf
    clear hf
    go_wp2_with (fail)
    go_ret
    exact ⟨by rw [HE.out, HF.out]; rfl, HO3.out⟩
set_option maxHeartbeats 2000000 in
theorem node1 (n : Int) (nm sb : ByteArray) (A : Option Addr) (cap : Nat) (args : List Ex) (w : World) (hW : WordsIs w) (_h2 : nm.size ≤ 9223372036854775807) (_h3 : sb.size ≤ 9223372036854775807) :
    Calls Tryd.prog 54 #[.agg #[.int .i64 1, .int .i64 n, .string nm, .string sb, .slice A args.length cap]] w fun r w' => r = .returned (.bool (nodeB 1 n nm sb args.length)) ∧ Only [] w w' := by
  have hbx := Blk.new w 24 #[.int .i64 1, .int .i64 n, .string nm, .string sb, .slice A args.length cap]
  have o0 : Only [] w (w.alloc (.cells #[.int .i64 1, .int .i64 n, .string nm, .string sb, .slice A args.length cap] 24)) := (Only.refl _ _).alloc _
  obtain ⟨c0, c1, c2, c3, c4, bl⟩ := hbx.facts5
  have HW := Lib.hid (hW.keep o0)
  have HO := Lib.hid o0
  have HB := Lib.hid hbx
  clear o0 hbx hW
  have he : nodeB 1 n nm sb args.length = (fB n nm sb args.length false false false 0 0) := by simp [nodeB]
  have HE := Lib.hid he
  clear he
  go_enter Tryd.func54, Tryd.ntmps54
  go_wp2_with (fail)
  refine (fields_any 1 n nm sb A cap args false false false 0 0 _).mono ?_
  rintro r w3 ⟨rfl, o3⟩
  have HO3 := Lib.hid (HO.out.trans o3 (by simp))
  have HW3 := Lib.hid (HW.out.keep o3)
  obtain ⟨c0, c1, c2, c3, c4, bl⟩ := (o3.blk HB.out (by simp)).facts5
  have HB3 := Lib.hid (o3.blk HB.out (by simp))
  clear o3
  go_wp2_with (fail)
  go_ret
  exact ⟨by rw [HE.out]; rfl, HO3.out⟩
set_option maxHeartbeats 2000000 in
theorem node2 (n : Int) (nm sb : ByteArray) (A : Option Addr) (cap : Nat) (args : List Ex) (w : World) (hW : WordsIs w) (_h2 : nm.size ≤ 9223372036854775807) (_h3 : sb.size ≤ 9223372036854775807) :
    Calls Tryd.prog 54 #[.agg #[.int .i64 2, .int .i64 n, .string nm, .string sb, .slice A args.length cap]] w fun r w' => r = .returned (.bool (nodeB 2 n nm sb args.length)) ∧ Only [] w w' := by
  have hbx := Blk.new w 24 #[.int .i64 2, .int .i64 n, .string nm, .string sb, .slice A args.length cap]
  have o0 : Only [] w (w.alloc (.cells #[.int .i64 2, .int .i64 n, .string nm, .string sb, .slice A args.length cap] 24)) := (Only.refl _ _).alloc _
  obtain ⟨c0, c1, c2, c3, c4, bl⟩ := hbx.facts5
  have HW := Lib.hid (hW.keep o0)
  have HO := Lib.hid o0
  have HB := Lib.hid hbx
  clear o0 hbx hW
  have he : nodeB 2 n nm sb args.length = (fB n nm sb args.length false false false 0 0) := by simp [nodeB]
  have HE := Lib.hid he
  clear he
  go_enter Tryd.func54, Tryd.ntmps54
  go_wp2_with (fail)
  refine (fields_any 2 n nm sb A cap args false false false 0 0 _).mono ?_
  rintro r w3 ⟨rfl, o3⟩
  have HO3 := Lib.hid (HO.out.trans o3 (by simp))
  have HW3 := Lib.hid (HW.out.keep o3)
  obtain ⟨c0, c1, c2, c3, c4, bl⟩ := (o3.blk HB.out (by simp)).facts5
  have HB3 := Lib.hid (o3.blk HB.out (by simp))
  clear o3
  go_wp2_with (fail)
  go_ret
  exact ⟨by rw [HE.out]; rfl, HO3.out⟩
set_option maxHeartbeats 2000000 in
theorem node11 (n : Int) (nm sb : ByteArray) (A : Option Addr) (cap : Nat) (args : List Ex) (w : World) (hW : WordsIs w) (_h2 : nm.size ≤ 9223372036854775807) (_h3 : sb.size ≤ 9223372036854775807) :
    Calls Tryd.prog 54 #[.agg #[.int .i64 11, .int .i64 n, .string nm, .string sb, .slice A args.length cap]] w fun r w' => r = .returned (.bool (nodeB 11 n nm sb args.length)) ∧ Only [] w w' := by
  have hbx := Blk.new w 24 #[.int .i64 11, .int .i64 n, .string nm, .string sb, .slice A args.length cap]
  have o0 : Only [] w (w.alloc (.cells #[.int .i64 11, .int .i64 n, .string nm, .string sb, .slice A args.length cap] 24)) := (Only.refl _ _).alloc _
  obtain ⟨c0, c1, c2, c3, c4, bl⟩ := hbx.facts5
  have HW := Lib.hid (hW.keep o0)
  have HO := Lib.hid o0
  have HB := Lib.hid hbx
  clear o0 hbx hW
  have he : nodeB 11 n nm sb args.length = (fB n nm sb args.length false false false 0 0) := by simp [nodeB]
  have HE := Lib.hid he
  clear he
  go_enter Tryd.func54, Tryd.ntmps54
  go_wp2_with (fail)
  refine (fields_any 11 n nm sb A cap args false false false 0 0 _).mono ?_
  rintro r w3 ⟨rfl, o3⟩
  have HO3 := Lib.hid (HO.out.trans o3 (by simp))
  have HW3 := Lib.hid (HW.out.keep o3)
  obtain ⟨c0, c1, c2, c3, c4, bl⟩ := (o3.blk HB.out (by simp)).facts5
  have HB3 := Lib.hid (o3.blk HB.out (by simp))
  clear o3
  go_wp2_with (fail)
  go_ret
  exact ⟨by rw [HE.out]; rfl, HO3.out⟩
set_option maxHeartbeats 2000000 in
theorem node3 (n : Int) (nm sb : ByteArray) (A : Option Addr) (cap : Nat) (args : List Ex) (w : World) (hW : WordsIs w) (h2 : nm.size ≤ 9223372036854775807) (_h3 : sb.size ≤ 9223372036854775807) :
    Calls Tryd.prog 54 #[.agg #[.int .i64 3, .int .i64 n, .string nm, .string sb, .slice A args.length cap]] w fun r w' => r = .returned (.bool (nodeB 3 n nm sb args.length)) ∧ Only [] w w' := by
  have hbx := Blk.new w 24 #[.int .i64 3, .int .i64 n, .string nm, .string sb, .slice A args.length cap]
  have o0 : Only [] w (w.alloc (.cells #[.int .i64 3, .int .i64 n, .string nm, .string sb, .slice A args.length cap] 24)) := (Only.refl _ _).alloc _
  obtain ⟨c0, c1, c2, c3, c4, bl⟩ := hbx.facts5
  have HW := Lib.hid (hW.keep o0)
  have HO := Lib.hid o0
  have HB := Lib.hid hbx
  clear o0 hbx hW
  have he : nodeB 3 n nm sb args.length = (fB n nm sb args.length false true false 0 0 && nameB nm) := by simp [nodeB]
  have HE := Lib.hid he
  clear he
  go_enter Tryd.func54, Tryd.ntmps54
  go_wp2_with (fail)
  refine (fields_any 3 n nm sb A cap args false true false 0 0 _).mono ?_
  rintro r w3 ⟨rfl, o3⟩
  have HO3 := Lib.hid (HO.out.trans o3 (by simp))
  have HW3 := Lib.hid (HW.out.keep o3)
  obtain ⟨c0, c1, c2, c3, c4, bl⟩ := (o3.blk HB.out (by simp)).facts5
  have HB3 := Lib.hid (o3.blk HB.out (by simp))
  clear o3
  cases hf : fB n nm sb args.length false true false 0 0 with
  | false =>
    have HF := Lib.hid hf
    clear hf
    go_wp2_with (fail)
    go_ret
    exact ⟨by rw [HE.out, HF.out]; rfl, HO3.out⟩
  | true =>
    have HF := Lib.hid hf
    clear hf
    go_wp2_with (fail)
    refine (vname_any h2).mono ?_
    rintro r w4 ⟨rfl, o4⟩
    have HO4 := Lib.hid (HO3.out.trans o4 (by simp))
    have HW4 := Lib.hid (HW3.out.keep o4)
    obtain ⟨d0, d1, d2, d3, d4, dl⟩ := (o4.blk HB3.out (by simp)).facts5
    clear o4
    go_wp2_with (fail)
    go_ret
    exact ⟨by rw [HE.out, HF.out]; rfl, HO4.out⟩
set_option maxHeartbeats 2000000 in
theorem node4 (n : Int) (nm sb : ByteArray) (A : Option Addr) (cap : Nat) (args : List Ex) (w : World) (hW : WordsIs w) (h2 : nm.size ≤ 9223372036854775807) (_h3 : sb.size ≤ 9223372036854775807) :
    Calls Tryd.prog 54 #[.agg #[.int .i64 4, .int .i64 n, .string nm, .string sb, .slice A args.length cap]] w fun r w' => r = .returned (.bool (nodeB 4 n nm sb args.length)) ∧ Only [] w w' := by
  have hbx := Blk.new w 24 #[.int .i64 4, .int .i64 n, .string nm, .string sb, .slice A args.length cap]
  have o0 : Only [] w (w.alloc (.cells #[.int .i64 4, .int .i64 n, .string nm, .string sb, .slice A args.length cap] 24)) := (Only.refl _ _).alloc _
  obtain ⟨c0, c1, c2, c3, c4, bl⟩ := hbx.facts5
  have HW := Lib.hid (hW.keep o0)
  have HO := Lib.hid o0
  have HB := Lib.hid hbx
  clear o0 hbx hW
  have he : nodeB 4 n nm sb args.length = (fB n nm sb args.length false true false 0 0 && nmB nm) := by simp [nodeB]
  have HE := Lib.hid he
  clear he
  go_enter Tryd.func54, Tryd.ntmps54
  go_wp2_with (fail)
  refine (fields_any 4 n nm sb A cap args false true false 0 0 _).mono ?_
  rintro r w3 ⟨rfl, o3⟩
  have HO3 := Lib.hid (HO.out.trans o3 (by simp))
  have HW3 := Lib.hid (HW.out.keep o3)
  obtain ⟨c0, c1, c2, c3, c4, bl⟩ := (o3.blk HB.out (by simp)).facts5
  have HB3 := Lib.hid (o3.blk HB.out (by simp))
  clear o3
  cases hf : fB n nm sb args.length false true false 0 0 with
  | false =>
    have HF := Lib.hid hf
    clear hf
    go_wp2_with (fail)
    go_ret
    exact ⟨by rw [HE.out, HF.out]; rfl, HO3.out⟩
  | true =>
    have HF := Lib.hid hf
    clear hf
    go_wp2_with (fail)
    refine (name_any h2 HW3.out).mono ?_
    rintro r w4 ⟨rfl, o4⟩
    have HO4 := Lib.hid (HO3.out.trans o4 (by simp))
    have HW4 := Lib.hid (HW3.out.keep o4)
    obtain ⟨d0, d1, d2, d3, d4, dl⟩ := (o4.blk HB3.out (by simp)).facts5
    clear o4
    go_wp2_with (fail)
    go_ret
    exact ⟨by rw [HE.out, HF.out]; rfl, HO4.out⟩
set_option maxHeartbeats 2000000 in
theorem node7 (n : Int) (nm sb : ByteArray) (A : Option Addr) (cap : Nat) (args : List Ex) (w : World) (hW : WordsIs w) (h2 : nm.size ≤ 9223372036854775807) (_h3 : sb.size ≤ 9223372036854775807) :
    Calls Tryd.prog 54 #[.agg #[.int .i64 7, .int .i64 n, .string nm, .string sb, .slice A args.length cap]] w fun r w' => r = .returned (.bool (nodeB 7 n nm sb args.length)) ∧ Only [] w w' := by
  have hbx := Blk.new w 24 #[.int .i64 7, .int .i64 n, .string nm, .string sb, .slice A args.length cap]
  have o0 : Only [] w (w.alloc (.cells #[.int .i64 7, .int .i64 n, .string nm, .string sb, .slice A args.length cap] 24)) := (Only.refl _ _).alloc _
  obtain ⟨c0, c1, c2, c3, c4, bl⟩ := hbx.facts5
  have HW := Lib.hid (hW.keep o0)
  have HO := Lib.hid o0
  have HB := Lib.hid hbx
  clear o0 hbx hW
  have he : nodeB 7 n nm sb args.length = (fB n nm sb args.length false true false 0 0 && nmB nm) := by simp [nodeB]
  have HE := Lib.hid he
  clear he
  go_enter Tryd.func54, Tryd.ntmps54
  go_wp2_with (fail)
  refine (fields_any 7 n nm sb A cap args false true false 0 0 _).mono ?_
  rintro r w3 ⟨rfl, o3⟩
  have HO3 := Lib.hid (HO.out.trans o3 (by simp))
  have HW3 := Lib.hid (HW.out.keep o3)
  obtain ⟨c0, c1, c2, c3, c4, bl⟩ := (o3.blk HB.out (by simp)).facts5
  have HB3 := Lib.hid (o3.blk HB.out (by simp))
  clear o3
  cases hf : fB n nm sb args.length false true false 0 0 with
  | false =>
    have HF := Lib.hid hf
    clear hf
    go_wp2_with (fail)
    go_ret
    exact ⟨by rw [HE.out, HF.out]; rfl, HO3.out⟩
  | true =>
    have HF := Lib.hid hf
    clear hf
    go_wp2_with (fail)
    refine (name_any h2 HW3.out).mono ?_
    rintro r w4 ⟨rfl, o4⟩
    have HO4 := Lib.hid (HO3.out.trans o4 (by simp))
    have HW4 := Lib.hid (HW3.out.keep o4)
    obtain ⟨d0, d1, d2, d3, d4, dl⟩ := (o4.blk HB3.out (by simp)).facts5
    clear o4
    go_wp2_with (fail)
    go_ret
    exact ⟨by rw [HE.out, HF.out]; rfl, HO4.out⟩
set_option maxHeartbeats 2000000 in
theorem node8 (n : Int) (nm sb : ByteArray) (A : Option Addr) (cap : Nat) (args : List Ex) (w : World) (hW : WordsIs w) (h2 : nm.size ≤ 9223372036854775807) (_h3 : sb.size ≤ 9223372036854775807) :
    Calls Tryd.prog 54 #[.agg #[.int .i64 8, .int .i64 n, .string nm, .string sb, .slice A args.length cap]] w fun r w' => r = .returned (.bool (nodeB 8 n nm sb args.length)) ∧ Only [] w w' := by
  have hbx := Blk.new w 24 #[.int .i64 8, .int .i64 n, .string nm, .string sb, .slice A args.length cap]
  have o0 : Only [] w (w.alloc (.cells #[.int .i64 8, .int .i64 n, .string nm, .string sb, .slice A args.length cap] 24)) := (Only.refl _ _).alloc _
  obtain ⟨c0, c1, c2, c3, c4, bl⟩ := hbx.facts5
  have HW := Lib.hid (hW.keep o0)
  have HO := Lib.hid o0
  have HB := Lib.hid hbx
  clear o0 hbx hW
  have he : nodeB 8 n nm sb args.length = (fB n nm sb args.length false true false 0 0 && nmB nm) := by simp [nodeB]
  have HE := Lib.hid he
  clear he
  go_enter Tryd.func54, Tryd.ntmps54
  go_wp2_with (fail)
  refine (fields_any 8 n nm sb A cap args false true false 0 0 _).mono ?_
  rintro r w3 ⟨rfl, o3⟩
  have HO3 := Lib.hid (HO.out.trans o3 (by simp))
  have HW3 := Lib.hid (HW.out.keep o3)
  obtain ⟨c0, c1, c2, c3, c4, bl⟩ := (o3.blk HB.out (by simp)).facts5
  have HB3 := Lib.hid (o3.blk HB.out (by simp))
  clear o3
  cases hf : fB n nm sb args.length false true false 0 0 with
  | false =>
    have HF := Lib.hid hf
    clear hf
    go_wp2_with (fail)
    go_ret
    exact ⟨by rw [HE.out, HF.out]; rfl, HO3.out⟩
  | true =>
    have HF := Lib.hid hf
    clear hf
    go_wp2_with (fail)
    refine (name_any h2 HW3.out).mono ?_
    rintro r w4 ⟨rfl, o4⟩
    have HO4 := Lib.hid (HO3.out.trans o4 (by simp))
    have HW4 := Lib.hid (HW3.out.keep o4)
    obtain ⟨d0, d1, d2, d3, d4, dl⟩ := (o4.blk HB3.out (by simp)).facts5
    clear o4
    go_wp2_with (fail)
    go_ret
    exact ⟨by rw [HE.out, HF.out]; rfl, HO4.out⟩
set_option maxHeartbeats 2000000 in
theorem node9 (n : Int) (nm sb : ByteArray) (A : Option Addr) (cap : Nat) (args : List Ex) (w : World) (hW : WordsIs w) (h2 : nm.size ≤ 9223372036854775807) (_h3 : sb.size ≤ 9223372036854775807) :
    Calls Tryd.prog 54 #[.agg #[.int .i64 9, .int .i64 n, .string nm, .string sb, .slice A args.length cap]] w fun r w' => r = .returned (.bool (nodeB 9 n nm sb args.length)) ∧ Only [] w w' := by
  have hbx := Blk.new w 24 #[.int .i64 9, .int .i64 n, .string nm, .string sb, .slice A args.length cap]
  have o0 : Only [] w (w.alloc (.cells #[.int .i64 9, .int .i64 n, .string nm, .string sb, .slice A args.length cap] 24)) := (Only.refl _ _).alloc _
  obtain ⟨c0, c1, c2, c3, c4, bl⟩ := hbx.facts5
  have HW := Lib.hid (hW.keep o0)
  have HO := Lib.hid o0
  have HB := Lib.hid hbx
  clear o0 hbx hW
  have he : nodeB 9 n nm sb args.length = (fB n nm sb args.length false true false 0 0 && nmB nm) := by simp [nodeB]
  have HE := Lib.hid he
  clear he
  go_enter Tryd.func54, Tryd.ntmps54
  go_wp2_with (fail)
  refine (fields_any 9 n nm sb A cap args false true false 0 0 _).mono ?_
  rintro r w3 ⟨rfl, o3⟩
  have HO3 := Lib.hid (HO.out.trans o3 (by simp))
  have HW3 := Lib.hid (HW.out.keep o3)
  obtain ⟨c0, c1, c2, c3, c4, bl⟩ := (o3.blk HB.out (by simp)).facts5
  have HB3 := Lib.hid (o3.blk HB.out (by simp))
  clear o3
  cases hf : fB n nm sb args.length false true false 0 0 with
  | false =>
    have HF := Lib.hid hf
    clear hf
    go_wp2_with (fail)
    go_ret
    exact ⟨by rw [HE.out, HF.out]; rfl, HO3.out⟩
  | true =>
    have HF := Lib.hid hf
    clear hf
    go_wp2_with (fail)
    refine (name_any h2 HW3.out).mono ?_
    rintro r w4 ⟨rfl, o4⟩
    have HO4 := Lib.hid (HO3.out.trans o4 (by simp))
    have HW4 := Lib.hid (HW3.out.keep o4)
    obtain ⟨d0, d1, d2, d3, d4, dl⟩ := (o4.blk HB3.out (by simp)).facts5
    clear o4
    go_wp2_with (fail)
    go_ret
    exact ⟨by rw [HE.out, HF.out]; rfl, HO4.out⟩
set_option maxHeartbeats 2000000 in
theorem node5 (n : Int) (nm sb : ByteArray) (A : Option Addr) (cap : Nat) (args : List Ex) (w : World) (hW : WordsIs w) (h2 : nm.size ≤ 9223372036854775807) (h3 : sb.size ≤ 9223372036854775807) :
    Calls Tryd.prog 54 #[.agg #[.int .i64 5, .int .i64 n, .string nm, .string sb, .slice A args.length cap]] w fun r w' => r = .returned (.bool (nodeB 5 n nm sb args.length)) ∧ Only [] w w' := by
  have hbx := Blk.new w 24 #[.int .i64 5, .int .i64 n, .string nm, .string sb, .slice A args.length cap]
  have o0 : Only [] w (w.alloc (.cells #[.int .i64 5, .int .i64 n, .string nm, .string sb, .slice A args.length cap] 24)) := (Only.refl _ _).alloc _
  obtain ⟨c0, c1, c2, c3, c4, bl⟩ := hbx.facts5
  have HW := Lib.hid (hW.keep o0)
  have HO := Lib.hid o0
  have HB := Lib.hid hbx
  clear o0 hbx hW
  have he : nodeB 5 n nm sb args.length = (fB n nm sb args.length false true true 0 0 && nmB nm && nmB sb) := by simp [nodeB]
  have HE := Lib.hid he
  clear he
  go_enter Tryd.func54, Tryd.ntmps54
  go_wp2_with (fail)
  refine (fields_any 5 n nm sb A cap args false true true 0 0 _).mono ?_
  rintro r w3 ⟨rfl, o3⟩
  have HO3 := Lib.hid (HO.out.trans o3 (by simp))
  have HW3 := Lib.hid (HW.out.keep o3)
  obtain ⟨c0, c1, c2, c3, c4, bl⟩ := (o3.blk HB.out (by simp)).facts5
  have HB3 := Lib.hid (o3.blk HB.out (by simp))
  clear o3
  cases hf : fB n nm sb args.length false true true 0 0 with
  | false =>
    have HF := Lib.hid hf
    clear hf
    go_wp2_with (fail)
    go_ret
    exact ⟨by rw [HE.out, HF.out]; rfl, HO3.out⟩
  | true =>
    have HF := Lib.hid hf
    clear hf
    go_wp2_with (fail)
    refine (name_any h2 HW3.out).mono ?_
    rintro r w4 ⟨rfl, o4⟩
    have HO4 := Lib.hid (HO3.out.trans o4 (by simp))
    have HW4 := Lib.hid (HW3.out.keep o4)
    obtain ⟨d0, d1, d2, d3, d4, dl⟩ := (o4.blk HB3.out (by simp)).facts5
    clear o4
    cases hm : nmB nm with
    | false =>
      have HM := Lib.hid hm
      clear hm
      go_wp2_with (fail)
      go_ret
      exact ⟨by rw [HE.out, HF.out, HM.out]; rfl, HO4.out⟩
    | true =>
      have HM := Lib.hid hm
      clear hm
      go_wp2_with (fail)
      refine (name_any h3 HW4.out).mono ?_
      rintro r w5 ⟨rfl, o5⟩
      have HO5 := Lib.hid (HO4.out.trans o5 (by simp))
      clear o5
      go_wp2_with (fail)
      go_ret
      exact ⟨by rw [HE.out, HF.out, HM.out]; rfl, HO5.out⟩
set_option maxHeartbeats 2000000 in
theorem node6 (n : Int) (nm sb : ByteArray) (A : Option Addr) (cap : Nat) (args : List Ex) (w : World) (hW : WordsIs w) (_h2 : nm.size ≤ 9223372036854775807) (_h3 : sb.size ≤ 9223372036854775807) :
    Calls Tryd.prog 54 #[.agg #[.int .i64 6, .int .i64 n, .string nm, .string sb, .slice A args.length cap]] w fun r w' => r = .returned (.bool (nodeB 6 n nm sb args.length)) ∧ Only [] w w' := by
  have hbx := Blk.new w 24 #[.int .i64 6, .int .i64 n, .string nm, .string sb, .slice A args.length cap]
  have o0 : Only [] w (w.alloc (.cells #[.int .i64 6, .int .i64 n, .string nm, .string sb, .slice A args.length cap] 24)) := (Only.refl _ _).alloc _
  obtain ⟨c0, c1, c2, c3, c4, bl⟩ := hbx.facts5
  have HW := Lib.hid (hW.keep o0)
  have HO := Lib.hid o0
  have HB := Lib.hid hbx
  clear o0 hbx hW
  have he : nodeB 6 n nm sb args.length = (fB n nm sb args.length false false false 1 4) := by simp [nodeB]
  have HE := Lib.hid he
  clear he
  go_enter Tryd.func54, Tryd.ntmps54
  go_wp2_with (fail)
  refine (fields_any 6 n nm sb A cap args false false false 1 4 _).mono ?_
  rintro r w3 ⟨rfl, o3⟩
  have HO3 := Lib.hid (HO.out.trans o3 (by simp))
  have HW3 := Lib.hid (HW.out.keep o3)
  obtain ⟨c0, c1, c2, c3, c4, bl⟩ := (o3.blk HB.out (by simp)).facts5
  have HB3 := Lib.hid (o3.blk HB.out (by simp))
  clear o3
  go_wp2_with (fail)
  go_ret
  exact ⟨by rw [HE.out]; rfl, HO3.out⟩
set_option maxHeartbeats 2000000 in
theorem node10 (n : Int) (nm sb : ByteArray) (A : Option Addr) (cap : Nat) (args : List Ex) (w : World) (hW : WordsIs w) (h2 : nm.size ≤ 9223372036854775807) (_h3 : sb.size ≤ 9223372036854775807) :
    Calls Tryd.prog 54 #[.agg #[.int .i64 10, .int .i64 n, .string nm, .string sb, .slice A args.length cap]] w fun r w' => r = .returned (.bool (nodeB 10 n nm sb args.length)) ∧ Only [] w w' := by
  have hbx := Blk.new w 24 #[.int .i64 10, .int .i64 n, .string nm, .string sb, .slice A args.length cap]
  have o0 : Only [] w (w.alloc (.cells #[.int .i64 10, .int .i64 n, .string nm, .string sb, .slice A args.length cap] 24)) := (Only.refl _ _).alloc _
  obtain ⟨c0, c1, c2, c3, c4, bl⟩ := hbx.facts5
  have HW := Lib.hid (hW.keep o0)
  have HO := Lib.hid o0
  have HB := Lib.hid hbx
  clear o0 hbx hW
  have he : nodeB 10 n nm sb args.length = (fB n nm sb args.length false true false 1 1 && nmB nm) := by simp [nodeB]
  have HE := Lib.hid he
  clear he
  go_enter Tryd.func54, Tryd.ntmps54
  go_wp2_with (fail)
  refine (fields_any 10 n nm sb A cap args false true false 1 1 _).mono ?_
  rintro r w3 ⟨rfl, o3⟩
  have HO3 := Lib.hid (HO.out.trans o3 (by simp))
  have HW3 := Lib.hid (HW.out.keep o3)
  obtain ⟨c0, c1, c2, c3, c4, bl⟩ := (o3.blk HB.out (by simp)).facts5
  have HB3 := Lib.hid (o3.blk HB.out (by simp))
  clear o3
  cases hf : fB n nm sb args.length false true false 1 1 with
  | false =>
    have HF := Lib.hid hf
    clear hf
    go_wp2_with (fail)
    go_ret
    exact ⟨by rw [HE.out, HF.out]; rfl, HO3.out⟩
  | true =>
    have HF := Lib.hid hf
    clear hf
    go_wp2_with (fail)
    refine (name_any h2 HW3.out).mono ?_
    rintro r w4 ⟨rfl, o4⟩
    have HO4 := Lib.hid (HO3.out.trans o4 (by simp))
    have HW4 := Lib.hid (HW3.out.keep o4)
    obtain ⟨d0, d1, d2, d3, d4, dl⟩ := (o4.blk HB3.out (by simp)).facts5
    clear o4
    go_wp2_with (fail)
    go_ret
    exact ⟨by rw [HE.out, HF.out]; rfl, HO4.out⟩
set_option maxHeartbeats 2000000 in
theorem node12 (n : Int) (nm sb : ByteArray) (A : Option Addr) (cap : Nat) (args : List Ex) (w : World) (hW : WordsIs w) (_h2 : nm.size ≤ 9223372036854775807) (_h3 : sb.size ≤ 9223372036854775807) :
    Calls Tryd.prog 54 #[.agg #[.int .i64 12, .int .i64 n, .string nm, .string sb, .slice A args.length cap]] w fun r w' => r = .returned (.bool (nodeB 12 n nm sb args.length)) ∧ Only [] w w' := by
  have hbx := Blk.new w 24 #[.int .i64 12, .int .i64 n, .string nm, .string sb, .slice A args.length cap]
  have o0 : Only [] w (w.alloc (.cells #[.int .i64 12, .int .i64 n, .string nm, .string sb, .slice A args.length cap] 24)) := (Only.refl _ _).alloc _
  obtain ⟨c0, c1, c2, c3, c4, bl⟩ := hbx.facts5
  have HW := Lib.hid (hW.keep o0)
  have HO := Lib.hid o0
  have HB := Lib.hid hbx
  clear o0 hbx hW
  have he : nodeB 12 n nm sb args.length = (fB n nm sb args.length true false false 1 1 && decide (0 ≤ n) && decide (n < 4)) := by simp [nodeB]
  have HE := Lib.hid he
  clear he
  go_enter Tryd.func54, Tryd.ntmps54
  go_wp2_with (fail)
  refine (fields_any 12 n nm sb A cap args true false false 1 1 _).mono ?_
  rintro r w3 ⟨rfl, o3⟩
  have HO3 := Lib.hid (HO.out.trans o3 (by simp))
  have HW3 := Lib.hid (HW.out.keep o3)
  obtain ⟨c0, c1, c2, c3, c4, bl⟩ := (o3.blk HB.out (by simp)).facts5
  have HB3 := Lib.hid (o3.blk HB.out (by simp))
  clear o3
  cases hf : fB n nm sb args.length true false false 1 1 with
  | false =>
    have HF := Lib.hid hf
    clear hf
    go_wp2_with (fail)
    go_ret
    exact ⟨by rw [HE.out, HF.out]; rfl, HO3.out⟩
  | true =>
    have HF := Lib.hid hf
    clear hf
    go_wp2_with (fail)
    all_goals
      go_ret
      refine ⟨?_, HO3.out⟩
      rw [HE.out, HF.out]
      simp_all
      try (intro h; omega)
set_option maxHeartbeats 2000000 in
theorem node13 (n : Int) (nm sb : ByteArray) (A : Option Addr) (cap : Nat) (args : List Ex) (w : World) (hW : WordsIs w) (_h2 : nm.size ≤ 9223372036854775807) (_h3 : sb.size ≤ 9223372036854775807) :
    Calls Tryd.prog 54 #[.agg #[.int .i64 13, .int .i64 n, .string nm, .string sb, .slice A args.length cap]] w fun r w' => r = .returned (.bool (nodeB 13 n nm sb args.length)) ∧ Only [] w w' := by
  have hbx := Blk.new w 24 #[.int .i64 13, .int .i64 n, .string nm, .string sb, .slice A args.length cap]
  have o0 : Only [] w (w.alloc (.cells #[.int .i64 13, .int .i64 n, .string nm, .string sb, .slice A args.length cap] 24)) := (Only.refl _ _).alloc _
  obtain ⟨c0, c1, c2, c3, c4, bl⟩ := hbx.facts5
  have HW := Lib.hid (hW.keep o0)
  have HO := Lib.hid o0
  have HB := Lib.hid hbx
  clear o0 hbx hW
  have he : nodeB 13 n nm sb args.length = (fB n nm sb args.length false false false 1 1) := by simp [nodeB]
  have HE := Lib.hid he
  clear he
  go_enter Tryd.func54, Tryd.ntmps54
  go_wp2_with (fail)
  refine (fields_any 13 n nm sb A cap args false false false 1 1 _).mono ?_
  rintro r w3 ⟨rfl, o3⟩
  have HO3 := Lib.hid (HO.out.trans o3 (by simp))
  have HW3 := Lib.hid (HW.out.keep o3)
  obtain ⟨c0, c1, c2, c3, c4, bl⟩ := (o3.blk HB.out (by simp)).facts5
  have HB3 := Lib.hid (o3.blk HB.out (by simp))
  clear o3
  go_wp2_with (fail)
  go_ret
  exact ⟨by rw [HE.out]; rfl, HO3.out⟩
set_option maxHeartbeats 2000000 in
theorem node14 (n : Int) (nm sb : ByteArray) (A : Option Addr) (cap : Nat) (args : List Ex) (w : World) (hW : WordsIs w) (_h2 : nm.size ≤ 9223372036854775807) (_h3 : sb.size ≤ 9223372036854775807) :
    Calls Tryd.prog 54 #[.agg #[.int .i64 14, .int .i64 n, .string nm, .string sb, .slice A args.length cap]] w fun r w' => r = .returned (.bool (nodeB 14 n nm sb args.length)) ∧ Only [] w w' := by
  have hbx := Blk.new w 24 #[.int .i64 14, .int .i64 n, .string nm, .string sb, .slice A args.length cap]
  have o0 : Only [] w (w.alloc (.cells #[.int .i64 14, .int .i64 n, .string nm, .string sb, .slice A args.length cap] 24)) := (Only.refl _ _).alloc _
  obtain ⟨c0, c1, c2, c3, c4, bl⟩ := hbx.facts5
  have HW := Lib.hid (hW.keep o0)
  have HO := Lib.hid o0
  have HB := Lib.hid hbx
  clear o0 hbx hW
  have he : nodeB 14 n nm sb args.length = (fB n nm sb args.length false false false 1 1) := by simp [nodeB]
  have HE := Lib.hid he
  clear he
  go_enter Tryd.func54, Tryd.ntmps54
  go_wp2_with (fail)
  refine (fields_any 14 n nm sb A cap args false false false 1 1 _).mono ?_
  rintro r w3 ⟨rfl, o3⟩
  have HO3 := Lib.hid (HO.out.trans o3 (by simp))
  have HW3 := Lib.hid (HW.out.keep o3)
  obtain ⟨c0, c1, c2, c3, c4, bl⟩ := (o3.blk HB.out (by simp)).facts5
  have HB3 := Lib.hid (o3.blk HB.out (by simp))
  clear o3
  go_wp2_with (fail)
  go_ret
  exact ⟨by rw [HE.out]; rfl, HO3.out⟩
set_option maxHeartbeats 2000000 in
theorem node25 (n : Int) (nm sb : ByteArray) (A : Option Addr) (cap : Nat) (args : List Ex) (w : World) (hW : WordsIs w) (_h2 : nm.size ≤ 9223372036854775807) (_h3 : sb.size ≤ 9223372036854775807) :
    Calls Tryd.prog 54 #[.agg #[.int .i64 25, .int .i64 n, .string nm, .string sb, .slice A args.length cap]] w fun r w' => r = .returned (.bool (nodeB 25 n nm sb args.length)) ∧ Only [] w w' := by
  have hbx := Blk.new w 24 #[.int .i64 25, .int .i64 n, .string nm, .string sb, .slice A args.length cap]
  have o0 : Only [] w (w.alloc (.cells #[.int .i64 25, .int .i64 n, .string nm, .string sb, .slice A args.length cap] 24)) := (Only.refl _ _).alloc _
  obtain ⟨c0, c1, c2, c3, c4, bl⟩ := hbx.facts5
  have HW := Lib.hid (hW.keep o0)
  have HO := Lib.hid o0
  have HB := Lib.hid hbx
  clear o0 hbx hW
  have he : nodeB 25 n nm sb args.length = (fB n nm sb args.length false false false 3 3) := by simp [nodeB]
  have HE := Lib.hid he
  clear he
  go_enter Tryd.func54, Tryd.ntmps54
  go_wp2_with (fail)
  refine (fields_any 25 n nm sb A cap args false false false 3 3 _).mono ?_
  rintro r w3 ⟨rfl, o3⟩
  have HO3 := Lib.hid (HO.out.trans o3 (by simp))
  have HW3 := Lib.hid (HW.out.keep o3)
  obtain ⟨c0, c1, c2, c3, c4, bl⟩ := (o3.blk HB.out (by simp)).facts5
  have HB3 := Lib.hid (o3.blk HB.out (by simp))
  clear o3
  go_wp2_with (fail)
  go_ret
  exact ⟨by rw [HE.out]; rfl, HO3.out⟩
set_option maxHeartbeats 2000000 in
theorem node15 (n : Int) (nm sb : ByteArray) (A : Option Addr) (cap : Nat) (args : List Ex) (w : World) (hW : WordsIs w) (_h2 : nm.size ≤ 9223372036854775807) (_h3 : sb.size ≤ 9223372036854775807) :
    Calls Tryd.prog 54 #[.agg #[.int .i64 15, .int .i64 n, .string nm, .string sb, .slice A args.length cap]] w fun r w' => r = .returned (.bool (nodeB 15 n nm sb args.length)) ∧ Only [] w w' := by
  have hbx := Blk.new w 24 #[.int .i64 15, .int .i64 n, .string nm, .string sb, .slice A args.length cap]
  have o0 : Only [] w (w.alloc (.cells #[.int .i64 15, .int .i64 n, .string nm, .string sb, .slice A args.length cap] 24)) := (Only.refl _ _).alloc _
  obtain ⟨c0, c1, c2, c3, c4, bl⟩ := hbx.facts5
  have HW := Lib.hid (hW.keep o0)
  have HO := Lib.hid o0
  have HB := Lib.hid hbx
  clear o0 hbx hW
  have he : nodeB 15 n nm sb args.length = (fB n nm sb args.length false false false 2 2) := by simp [nodeB]
  have HE := Lib.hid he
  clear he
  go_enter Tryd.func54, Tryd.ntmps54
  go_wp2_with (fail)
  refine (fields_any 15 n nm sb A cap args false false false 2 2 _).mono ?_
  rintro r w3 ⟨rfl, o3⟩
  have HO3 := Lib.hid (HO.out.trans o3 (by simp))
  have HW3 := Lib.hid (HW.out.keep o3)
  obtain ⟨c0, c1, c2, c3, c4, bl⟩ := (o3.blk HB.out (by simp)).facts5
  have HB3 := Lib.hid (o3.blk HB.out (by simp))
  clear o3
  go_wp2_with (fail)
  go_ret
  exact ⟨by rw [HE.out]; rfl, HO3.out⟩
set_option maxHeartbeats 2000000 in
theorem node16 (n : Int) (nm sb : ByteArray) (A : Option Addr) (cap : Nat) (args : List Ex) (w : World) (hW : WordsIs w) (_h2 : nm.size ≤ 9223372036854775807) (_h3 : sb.size ≤ 9223372036854775807) :
    Calls Tryd.prog 54 #[.agg #[.int .i64 16, .int .i64 n, .string nm, .string sb, .slice A args.length cap]] w fun r w' => r = .returned (.bool (nodeB 16 n nm sb args.length)) ∧ Only [] w w' := by
  have hbx := Blk.new w 24 #[.int .i64 16, .int .i64 n, .string nm, .string sb, .slice A args.length cap]
  have o0 : Only [] w (w.alloc (.cells #[.int .i64 16, .int .i64 n, .string nm, .string sb, .slice A args.length cap] 24)) := (Only.refl _ _).alloc _
  obtain ⟨c0, c1, c2, c3, c4, bl⟩ := hbx.facts5
  have HW := Lib.hid (hW.keep o0)
  have HO := Lib.hid o0
  have HB := Lib.hid hbx
  clear o0 hbx hW
  have he : nodeB 16 n nm sb args.length = (fB n nm sb args.length false false false 2 2) := by simp [nodeB]
  have HE := Lib.hid he
  clear he
  go_enter Tryd.func54, Tryd.ntmps54
  go_wp2_with (fail)
  refine (fields_any 16 n nm sb A cap args false false false 2 2 _).mono ?_
  rintro r w3 ⟨rfl, o3⟩
  have HO3 := Lib.hid (HO.out.trans o3 (by simp))
  have HW3 := Lib.hid (HW.out.keep o3)
  obtain ⟨c0, c1, c2, c3, c4, bl⟩ := (o3.blk HB.out (by simp)).facts5
  have HB3 := Lib.hid (o3.blk HB.out (by simp))
  clear o3
  go_wp2_with (fail)
  go_ret
  exact ⟨by rw [HE.out]; rfl, HO3.out⟩
set_option maxHeartbeats 2000000 in
theorem node17 (n : Int) (nm sb : ByteArray) (A : Option Addr) (cap : Nat) (args : List Ex) (w : World) (hW : WordsIs w) (_h2 : nm.size ≤ 9223372036854775807) (_h3 : sb.size ≤ 9223372036854775807) :
    Calls Tryd.prog 54 #[.agg #[.int .i64 17, .int .i64 n, .string nm, .string sb, .slice A args.length cap]] w fun r w' => r = .returned (.bool (nodeB 17 n nm sb args.length)) ∧ Only [] w w' := by
  have hbx := Blk.new w 24 #[.int .i64 17, .int .i64 n, .string nm, .string sb, .slice A args.length cap]
  have o0 : Only [] w (w.alloc (.cells #[.int .i64 17, .int .i64 n, .string nm, .string sb, .slice A args.length cap] 24)) := (Only.refl _ _).alloc _
  obtain ⟨c0, c1, c2, c3, c4, bl⟩ := hbx.facts5
  have HW := Lib.hid (hW.keep o0)
  have HO := Lib.hid o0
  have HB := Lib.hid hbx
  clear o0 hbx hW
  have he : nodeB 17 n nm sb args.length = (fB n nm sb args.length false false false 2 2) := by simp [nodeB]
  have HE := Lib.hid he
  clear he
  go_enter Tryd.func54, Tryd.ntmps54
  go_wp2_with (fail)
  refine (fields_any 17 n nm sb A cap args false false false 2 2 _).mono ?_
  rintro r w3 ⟨rfl, o3⟩
  have HO3 := Lib.hid (HO.out.trans o3 (by simp))
  have HW3 := Lib.hid (HW.out.keep o3)
  obtain ⟨c0, c1, c2, c3, c4, bl⟩ := (o3.blk HB.out (by simp)).facts5
  have HB3 := Lib.hid (o3.blk HB.out (by simp))
  clear o3
  go_wp2_with (fail)
  go_ret
  exact ⟨by rw [HE.out]; rfl, HO3.out⟩
set_option maxHeartbeats 2000000 in
theorem node18 (n : Int) (nm sb : ByteArray) (A : Option Addr) (cap : Nat) (args : List Ex) (w : World) (hW : WordsIs w) (_h2 : nm.size ≤ 9223372036854775807) (_h3 : sb.size ≤ 9223372036854775807) :
    Calls Tryd.prog 54 #[.agg #[.int .i64 18, .int .i64 n, .string nm, .string sb, .slice A args.length cap]] w fun r w' => r = .returned (.bool (nodeB 18 n nm sb args.length)) ∧ Only [] w w' := by
  have hbx := Blk.new w 24 #[.int .i64 18, .int .i64 n, .string nm, .string sb, .slice A args.length cap]
  have o0 : Only [] w (w.alloc (.cells #[.int .i64 18, .int .i64 n, .string nm, .string sb, .slice A args.length cap] 24)) := (Only.refl _ _).alloc _
  obtain ⟨c0, c1, c2, c3, c4, bl⟩ := hbx.facts5
  have HW := Lib.hid (hW.keep o0)
  have HO := Lib.hid o0
  have HB := Lib.hid hbx
  clear o0 hbx hW
  have he : nodeB 18 n nm sb args.length = (fB n nm sb args.length false false false 2 2) := by simp [nodeB]
  have HE := Lib.hid he
  clear he
  go_enter Tryd.func54, Tryd.ntmps54
  go_wp2_with (fail)
  refine (fields_any 18 n nm sb A cap args false false false 2 2 _).mono ?_
  rintro r w3 ⟨rfl, o3⟩
  have HO3 := Lib.hid (HO.out.trans o3 (by simp))
  have HW3 := Lib.hid (HW.out.keep o3)
  obtain ⟨c0, c1, c2, c3, c4, bl⟩ := (o3.blk HB.out (by simp)).facts5
  have HB3 := Lib.hid (o3.blk HB.out (by simp))
  clear o3
  go_wp2_with (fail)
  go_ret
  exact ⟨by rw [HE.out]; rfl, HO3.out⟩
set_option maxHeartbeats 2000000 in
theorem node19 (n : Int) (nm sb : ByteArray) (A : Option Addr) (cap : Nat) (args : List Ex) (w : World) (hW : WordsIs w) (_h2 : nm.size ≤ 9223372036854775807) (_h3 : sb.size ≤ 9223372036854775807) :
    Calls Tryd.prog 54 #[.agg #[.int .i64 19, .int .i64 n, .string nm, .string sb, .slice A args.length cap]] w fun r w' => r = .returned (.bool (nodeB 19 n nm sb args.length)) ∧ Only [] w w' := by
  have hbx := Blk.new w 24 #[.int .i64 19, .int .i64 n, .string nm, .string sb, .slice A args.length cap]
  have o0 : Only [] w (w.alloc (.cells #[.int .i64 19, .int .i64 n, .string nm, .string sb, .slice A args.length cap] 24)) := (Only.refl _ _).alloc _
  obtain ⟨c0, c1, c2, c3, c4, bl⟩ := hbx.facts5
  have HW := Lib.hid (hW.keep o0)
  have HO := Lib.hid o0
  have HB := Lib.hid hbx
  clear o0 hbx hW
  have he : nodeB 19 n nm sb args.length = (fB n nm sb args.length false false false 2 2) := by simp [nodeB]
  have HE := Lib.hid he
  clear he
  go_enter Tryd.func54, Tryd.ntmps54
  go_wp2_with (fail)
  refine (fields_any 19 n nm sb A cap args false false false 2 2 _).mono ?_
  rintro r w3 ⟨rfl, o3⟩
  have HO3 := Lib.hid (HO.out.trans o3 (by simp))
  have HW3 := Lib.hid (HW.out.keep o3)
  obtain ⟨c0, c1, c2, c3, c4, bl⟩ := (o3.blk HB.out (by simp)).facts5
  have HB3 := Lib.hid (o3.blk HB.out (by simp))
  clear o3
  go_wp2_with (fail)
  go_ret
  exact ⟨by rw [HE.out]; rfl, HO3.out⟩
set_option maxHeartbeats 2000000 in
theorem node20 (n : Int) (nm sb : ByteArray) (A : Option Addr) (cap : Nat) (args : List Ex) (w : World) (hW : WordsIs w) (_h2 : nm.size ≤ 9223372036854775807) (_h3 : sb.size ≤ 9223372036854775807) :
    Calls Tryd.prog 54 #[.agg #[.int .i64 20, .int .i64 n, .string nm, .string sb, .slice A args.length cap]] w fun r w' => r = .returned (.bool (nodeB 20 n nm sb args.length)) ∧ Only [] w w' := by
  have hbx := Blk.new w 24 #[.int .i64 20, .int .i64 n, .string nm, .string sb, .slice A args.length cap]
  have o0 : Only [] w (w.alloc (.cells #[.int .i64 20, .int .i64 n, .string nm, .string sb, .slice A args.length cap] 24)) := (Only.refl _ _).alloc _
  obtain ⟨c0, c1, c2, c3, c4, bl⟩ := hbx.facts5
  have HW := Lib.hid (hW.keep o0)
  have HO := Lib.hid o0
  have HB := Lib.hid hbx
  clear o0 hbx hW
  have he : nodeB 20 n nm sb args.length = (fB n nm sb args.length false false false 2 2) := by simp [nodeB]
  have HE := Lib.hid he
  clear he
  go_enter Tryd.func54, Tryd.ntmps54
  go_wp2_with (fail)
  refine (fields_any 20 n nm sb A cap args false false false 2 2 _).mono ?_
  rintro r w3 ⟨rfl, o3⟩
  have HO3 := Lib.hid (HO.out.trans o3 (by simp))
  have HW3 := Lib.hid (HW.out.keep o3)
  obtain ⟨c0, c1, c2, c3, c4, bl⟩ := (o3.blk HB.out (by simp)).facts5
  have HB3 := Lib.hid (o3.blk HB.out (by simp))
  clear o3
  go_wp2_with (fail)
  go_ret
  exact ⟨by rw [HE.out]; rfl, HO3.out⟩
set_option maxHeartbeats 2000000 in
theorem node21 (n : Int) (nm sb : ByteArray) (A : Option Addr) (cap : Nat) (args : List Ex) (w : World) (hW : WordsIs w) (_h2 : nm.size ≤ 9223372036854775807) (_h3 : sb.size ≤ 9223372036854775807) :
    Calls Tryd.prog 54 #[.agg #[.int .i64 21, .int .i64 n, .string nm, .string sb, .slice A args.length cap]] w fun r w' => r = .returned (.bool (nodeB 21 n nm sb args.length)) ∧ Only [] w w' := by
  have hbx := Blk.new w 24 #[.int .i64 21, .int .i64 n, .string nm, .string sb, .slice A args.length cap]
  have o0 : Only [] w (w.alloc (.cells #[.int .i64 21, .int .i64 n, .string nm, .string sb, .slice A args.length cap] 24)) := (Only.refl _ _).alloc _
  obtain ⟨c0, c1, c2, c3, c4, bl⟩ := hbx.facts5
  have HW := Lib.hid (hW.keep o0)
  have HO := Lib.hid o0
  have HB := Lib.hid hbx
  clear o0 hbx hW
  have he : nodeB 21 n nm sb args.length = (fB n nm sb args.length false false false 2 2) := by simp [nodeB]
  have HE := Lib.hid he
  clear he
  go_enter Tryd.func54, Tryd.ntmps54
  go_wp2_with (fail)
  refine (fields_any 21 n nm sb A cap args false false false 2 2 _).mono ?_
  rintro r w3 ⟨rfl, o3⟩
  have HO3 := Lib.hid (HO.out.trans o3 (by simp))
  have HW3 := Lib.hid (HW.out.keep o3)
  obtain ⟨c0, c1, c2, c3, c4, bl⟩ := (o3.blk HB.out (by simp)).facts5
  have HB3 := Lib.hid (o3.blk HB.out (by simp))
  clear o3
  go_wp2_with (fail)
  go_ret
  exact ⟨by rw [HE.out]; rfl, HO3.out⟩
set_option maxHeartbeats 2000000 in
theorem node22 (n : Int) (nm sb : ByteArray) (A : Option Addr) (cap : Nat) (args : List Ex) (w : World) (hW : WordsIs w) (_h2 : nm.size ≤ 9223372036854775807) (_h3 : sb.size ≤ 9223372036854775807) :
    Calls Tryd.prog 54 #[.agg #[.int .i64 22, .int .i64 n, .string nm, .string sb, .slice A args.length cap]] w fun r w' => r = .returned (.bool (nodeB 22 n nm sb args.length)) ∧ Only [] w w' := by
  have hbx := Blk.new w 24 #[.int .i64 22, .int .i64 n, .string nm, .string sb, .slice A args.length cap]
  have o0 : Only [] w (w.alloc (.cells #[.int .i64 22, .int .i64 n, .string nm, .string sb, .slice A args.length cap] 24)) := (Only.refl _ _).alloc _
  obtain ⟨c0, c1, c2, c3, c4, bl⟩ := hbx.facts5
  have HW := Lib.hid (hW.keep o0)
  have HO := Lib.hid o0
  have HB := Lib.hid hbx
  clear o0 hbx hW
  have he : nodeB 22 n nm sb args.length = (fB n nm sb args.length false false false 2 2) := by simp [nodeB]
  have HE := Lib.hid he
  clear he
  go_enter Tryd.func54, Tryd.ntmps54
  go_wp2_with (fail)
  refine (fields_any 22 n nm sb A cap args false false false 2 2 _).mono ?_
  rintro r w3 ⟨rfl, o3⟩
  have HO3 := Lib.hid (HO.out.trans o3 (by simp))
  have HW3 := Lib.hid (HW.out.keep o3)
  obtain ⟨c0, c1, c2, c3, c4, bl⟩ := (o3.blk HB.out (by simp)).facts5
  have HB3 := Lib.hid (o3.blk HB.out (by simp))
  clear o3
  go_wp2_with (fail)
  go_ret
  exact ⟨by rw [HE.out]; rfl, HO3.out⟩
set_option maxHeartbeats 2000000 in
theorem node23 (n : Int) (nm sb : ByteArray) (A : Option Addr) (cap : Nat) (args : List Ex) (w : World) (hW : WordsIs w) (_h2 : nm.size ≤ 9223372036854775807) (_h3 : sb.size ≤ 9223372036854775807) :
    Calls Tryd.prog 54 #[.agg #[.int .i64 23, .int .i64 n, .string nm, .string sb, .slice A args.length cap]] w fun r w' => r = .returned (.bool (nodeB 23 n nm sb args.length)) ∧ Only [] w w' := by
  have hbx := Blk.new w 24 #[.int .i64 23, .int .i64 n, .string nm, .string sb, .slice A args.length cap]
  have o0 : Only [] w (w.alloc (.cells #[.int .i64 23, .int .i64 n, .string nm, .string sb, .slice A args.length cap] 24)) := (Only.refl _ _).alloc _
  obtain ⟨c0, c1, c2, c3, c4, bl⟩ := hbx.facts5
  have HW := Lib.hid (hW.keep o0)
  have HO := Lib.hid o0
  have HB := Lib.hid hbx
  clear o0 hbx hW
  have he : nodeB 23 n nm sb args.length = (fB n nm sb args.length false false false 2 2) := by simp [nodeB]
  have HE := Lib.hid he
  clear he
  go_enter Tryd.func54, Tryd.ntmps54
  go_wp2_with (fail)
  refine (fields_any 23 n nm sb A cap args false false false 2 2 _).mono ?_
  rintro r w3 ⟨rfl, o3⟩
  have HO3 := Lib.hid (HO.out.trans o3 (by simp))
  have HW3 := Lib.hid (HW.out.keep o3)
  obtain ⟨c0, c1, c2, c3, c4, bl⟩ := (o3.blk HB.out (by simp)).facts5
  have HB3 := Lib.hid (o3.blk HB.out (by simp))
  clear o3
  go_wp2_with (fail)
  go_ret
  exact ⟨by rw [HE.out]; rfl, HO3.out⟩
set_option maxHeartbeats 2000000 in
theorem node24 (n : Int) (nm sb : ByteArray) (A : Option Addr) (cap : Nat) (args : List Ex) (w : World) (hW : WordsIs w) (_h2 : nm.size ≤ 9223372036854775807) (_h3 : sb.size ≤ 9223372036854775807) :
    Calls Tryd.prog 54 #[.agg #[.int .i64 24, .int .i64 n, .string nm, .string sb, .slice A args.length cap]] w fun r w' => r = .returned (.bool (nodeB 24 n nm sb args.length)) ∧ Only [] w w' := by
  have hbx := Blk.new w 24 #[.int .i64 24, .int .i64 n, .string nm, .string sb, .slice A args.length cap]
  have o0 : Only [] w (w.alloc (.cells #[.int .i64 24, .int .i64 n, .string nm, .string sb, .slice A args.length cap] 24)) := (Only.refl _ _).alloc _
  obtain ⟨c0, c1, c2, c3, c4, bl⟩ := hbx.facts5
  have HW := Lib.hid (hW.keep o0)
  have HO := Lib.hid o0
  have HB := Lib.hid hbx
  clear o0 hbx hW
  have he : nodeB 24 n nm sb args.length = (fB n nm sb args.length false false false 2 2) := by simp [nodeB]
  have HE := Lib.hid he
  clear he
  go_enter Tryd.func54, Tryd.ntmps54
  go_wp2_with (fail)
  refine (fields_any 24 n nm sb A cap args false false false 2 2 _).mono ?_
  rintro r w3 ⟨rfl, o3⟩
  have HO3 := Lib.hid (HO.out.trans o3 (by simp))
  have HW3 := Lib.hid (HW.out.keep o3)
  obtain ⟨c0, c1, c2, c3, c4, bl⟩ := (o3.blk HB.out (by simp)).facts5
  have HB3 := Lib.hid (o3.blk HB.out (by simp))
  clear o3
  go_wp2_with (fail)
  go_ret
  exact ⟨by rw [HE.out]; rfl, HO3.out⟩
set_option maxHeartbeats 4000000 in
theorem nodeX (op n : Int) (nm sb : ByteArray) (A : Option Addr) (cap : Nat) (args : List Ex) (w : World) (hop : op < 0 ∨ 25 < op) :
    Calls Tryd.prog 54 #[.agg #[.int .i64 op, .int .i64 n, .string nm, .string sb, .slice A args.length cap]] w fun r w' => r = .returned (.bool (nodeB op n nm sb args.length)) ∧ Only [] w w' := by
  have he : nodeB op n nm sb args.length = false := by
    unfold nodeB
    repeat rw [if_neg (by omega)]
  have hbx := Blk.new w 24 #[.int .i64 op, .int .i64 n, .string nm, .string sb, .slice A args.length cap]
  have o0 : Only [] w (w.alloc (.cells #[.int .i64 op, .int .i64 n, .string nm, .string sb, .slice A args.length cap] 24)) := (Only.refl _ _).alloc _
  obtain ⟨c0, c1, c2, c3, c4, bl⟩ := hbx.facts5
  have HO := Lib.hid o0
  have HE := Lib.hid he
  clear o0 hbx he
  have q0 : (op == 0) = false := by rw [beq_eq_false_iff_ne]; omega
  have q1 : (op == 1) = false := by rw [beq_eq_false_iff_ne]; omega
  have q2 : (op == 2) = false := by rw [beq_eq_false_iff_ne]; omega
  have q3 : (op == 3) = false := by rw [beq_eq_false_iff_ne]; omega
  have q4 : (op == 4) = false := by rw [beq_eq_false_iff_ne]; omega
  have q5 : (op == 5) = false := by rw [beq_eq_false_iff_ne]; omega
  have q6 : (op == 6) = false := by rw [beq_eq_false_iff_ne]; omega
  have q7 : (op == 7) = false := by rw [beq_eq_false_iff_ne]; omega
  have q8 : (op == 8) = false := by rw [beq_eq_false_iff_ne]; omega
  have q9 : (op == 9) = false := by rw [beq_eq_false_iff_ne]; omega
  have q10 : (op == 10) = false := by rw [beq_eq_false_iff_ne]; omega
  have q11 : (op == 11) = false := by rw [beq_eq_false_iff_ne]; omega
  have q12 : (op == 12) = false := by rw [beq_eq_false_iff_ne]; omega
  have q13 : (op == 13) = false := by rw [beq_eq_false_iff_ne]; omega
  have q14 : (op == 14) = false := by rw [beq_eq_false_iff_ne]; omega
  have q15 : (op == 15) = false := by rw [beq_eq_false_iff_ne]; omega
  have q16 : (op == 16) = false := by rw [beq_eq_false_iff_ne]; omega
  have q17 : (op == 17) = false := by rw [beq_eq_false_iff_ne]; omega
  have q18 : (op == 18) = false := by rw [beq_eq_false_iff_ne]; omega
  have q19 : (op == 19) = false := by rw [beq_eq_false_iff_ne]; omega
  have q20 : (op == 20) = false := by rw [beq_eq_false_iff_ne]; omega
  have q21 : (op == 21) = false := by rw [beq_eq_false_iff_ne]; omega
  have q22 : (op == 22) = false := by rw [beq_eq_false_iff_ne]; omega
  have q23 : (op == 23) = false := by rw [beq_eq_false_iff_ne]; omega
  have q24 : (op == 24) = false := by rw [beq_eq_false_iff_ne]; omega
  have q25 : (op == 25) = false := by rw [beq_eq_false_iff_ne]; omega
  clear hop
  go_enter Tryd.func54, Tryd.ntmps54
  go_wp2_with (fail)
  go_ret
  exact ⟨by rw [HE.out]; rfl, HO.out⟩
/-- nodeRight -/
theorem node_any (op n : Int) (nm sb : ByteArray) (A : Option Addr) (cap : Nat) (args : List Ex) (w : World) (hW : WordsIs w) (h2 : nm.size ≤ 9223372036854775807) (h3 : sb.size ≤ 9223372036854775807) :
    Calls Tryd.prog 54 #[.agg #[.int .i64 op, .int .i64 n, .string nm, .string sb, .slice A args.length cap]] w fun r w' => r = .returned (.bool (nodeB op n nm sb args.length)) ∧ Only [] w w' := by
  rcases cases26 op with h | h
  · obtain ⟨k, rfl⟩ : ∃ k : Nat, op = k := ⟨op.toNat, by omega⟩
    have hk : k < 26 := by omega
    rcases Nat.lt_or_ge k 13 with h0_26 | h0_26
    · rcases Nat.lt_or_ge k 6 with h0_13 | h0_13
      · rcases Nat.lt_or_ge k 3 with h0_6 | h0_6
        · rcases Nat.lt_or_ge k 1 with h0_3 | h0_3
          · obtain rfl : k = 0 := by omega
            exact node0 n nm sb A cap args w hW h2 h3
          · rcases Nat.lt_or_ge k 2 with h1_3 | h1_3
            · obtain rfl : k = 1 := by omega
              exact node1 n nm sb A cap args w hW h2 h3
            · obtain rfl : k = 2 := by omega
              exact node2 n nm sb A cap args w hW h2 h3
        · rcases Nat.lt_or_ge k 4 with h3_6 | h3_6
          · obtain rfl : k = 3 := by omega
            exact node3 n nm sb A cap args w hW h2 h3
          · rcases Nat.lt_or_ge k 5 with h4_6 | h4_6
            · obtain rfl : k = 4 := by omega
              exact node4 n nm sb A cap args w hW h2 h3
            · obtain rfl : k = 5 := by omega
              exact node5 n nm sb A cap args w hW h2 h3
      · rcases Nat.lt_or_ge k 9 with h6_13 | h6_13
        · rcases Nat.lt_or_ge k 7 with h6_9 | h6_9
          · obtain rfl : k = 6 := by omega
            exact node6 n nm sb A cap args w hW h2 h3
          · rcases Nat.lt_or_ge k 8 with h7_9 | h7_9
            · obtain rfl : k = 7 := by omega
              exact node7 n nm sb A cap args w hW h2 h3
            · obtain rfl : k = 8 := by omega
              exact node8 n nm sb A cap args w hW h2 h3
        · rcases Nat.lt_or_ge k 11 with h9_13 | h9_13
          · rcases Nat.lt_or_ge k 10 with h9_11 | h9_11
            · obtain rfl : k = 9 := by omega
              exact node9 n nm sb A cap args w hW h2 h3
            · obtain rfl : k = 10 := by omega
              exact node10 n nm sb A cap args w hW h2 h3
          · rcases Nat.lt_or_ge k 12 with h11_13 | h11_13
            · obtain rfl : k = 11 := by omega
              exact node11 n nm sb A cap args w hW h2 h3
            · obtain rfl : k = 12 := by omega
              exact node12 n nm sb A cap args w hW h2 h3
    · rcases Nat.lt_or_ge k 19 with h13_26 | h13_26
      · rcases Nat.lt_or_ge k 16 with h13_19 | h13_19
        · rcases Nat.lt_or_ge k 14 with h13_16 | h13_16
          · obtain rfl : k = 13 := by omega
            exact node13 n nm sb A cap args w hW h2 h3
          · rcases Nat.lt_or_ge k 15 with h14_16 | h14_16
            · obtain rfl : k = 14 := by omega
              exact node14 n nm sb A cap args w hW h2 h3
            · obtain rfl : k = 15 := by omega
              exact node15 n nm sb A cap args w hW h2 h3
        · rcases Nat.lt_or_ge k 17 with h16_19 | h16_19
          · obtain rfl : k = 16 := by omega
            exact node16 n nm sb A cap args w hW h2 h3
          · rcases Nat.lt_or_ge k 18 with h17_19 | h17_19
            · obtain rfl : k = 17 := by omega
              exact node17 n nm sb A cap args w hW h2 h3
            · obtain rfl : k = 18 := by omega
              exact node18 n nm sb A cap args w hW h2 h3
      · rcases Nat.lt_or_ge k 22 with h19_26 | h19_26
        · rcases Nat.lt_or_ge k 20 with h19_22 | h19_22
          · obtain rfl : k = 19 := by omega
            exact node19 n nm sb A cap args w hW h2 h3
          · rcases Nat.lt_or_ge k 21 with h20_22 | h20_22
            · obtain rfl : k = 20 := by omega
              exact node20 n nm sb A cap args w hW h2 h3
            · obtain rfl : k = 21 := by omega
              exact node21 n nm sb A cap args w hW h2 h3
        · rcases Nat.lt_or_ge k 24 with h22_26 | h22_26
          · rcases Nat.lt_or_ge k 23 with h22_24 | h22_24
            · obtain rfl : k = 22 := by omega
              exact node22 n nm sb A cap args w hW h2 h3
            · obtain rfl : k = 23 := by omega
              exact node23 n nm sb A cap args w hW h2 h3
          · rcases Nat.lt_or_ge k 25 with h24_26 | h24_26
            · obtain rfl : k = 24 := by omega
              exact node24 n nm sb A cap args w hW h2 h3
            · obtain rfl : k = 25 := by omega
              exact node25 n nm sb A cap args w hW h2 h3
  · exact nodeX op n nm sb A cap args w h
end Go.Proofs.YtfnacnlaphpflaaDoor
