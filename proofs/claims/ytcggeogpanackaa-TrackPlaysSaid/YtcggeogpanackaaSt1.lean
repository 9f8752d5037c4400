/- Stamps: right, compared. -/
import Derived.Test.YtcggeogpanackaaSums
import Derived.Test.YtcggeogpanackaaFacts
namespace Go.Proofs.Ytcggeogpanackaa
open Go.RowKit Go.Kx
set_option maxRecDepth 20000

theorem _root_.Go.Kx.Blk.facts3 {w : World} {g : Nat} {t : TypeId} {a b c : Value} (h : Blk w g t #[a, b, c]) : w.cell? ⟨g, 0, none⟩ = some a ∧ w.cell? ⟨g, 1, none⟩ = some b ∧ w.cell? ⟨g, 2, none⟩ = some c ∧ g < w.heap.size :=
  ⟨by simpa using h.cell 0, by simpa using h.cell 1, by simpa using h.cell 2, h.lt⟩
/-- a stamp -/
abbrev St := Tm × Int
def St.ok (s : St) : Prop := Tm.ok s.1 ∧ I64 s.2
def mostS : Int := 1099511627776
/-- is a stamp right? -/
def stR (s : St) : Bool := s.1.right && decide (0 ≤ s.2) && decide (s.2 ≤ mostS) && (decide (s.2 = 0) || !decide (s.1 = (1, 0)))
def neverSt : St := ((1, 0), 0)
theorem neq_times (a b c d : Int) (W : World) : (binOp .neq 24 (.agg #[.int .i64 a, .int .i64 b]) (.agg #[.int .i64 c, .int .i64 d])).run Try.prog W = .ok (.bool (!decide (a = c ∧ b = d))) W := by
  by_cases h : a = c <;> by_cases h2 : b = d <;> simp [go_sem, h, h2]

set_option maxHeartbeats 1000000 in
theorem stright_w (s : St) (ho : s.ok) (hr : s.1.right = false) (w : World) :
    Calls Try.prog 25 #[.agg #[.int .i64 s.1.1, .int .i64 s.1.2, .int .i64 s.2]] w fun e w' => e = .returned (.bool false) ∧ Only [] w w' := by
  have HR := Lib.hid hr
  clear hr
  have O0 := Lib.hid (Only.refl [] w)
  go_enter Try.func25, Try.ntmps25
  go_wp2_with (fail)
  refine (rightr ho.1 HR.out _).mono ?_
  rintro e w1 ⟨rfl, o⟩
  have B0n : Blk (w.alloc (.cells #[.int .i64 s.1.1, .int .i64 s.1.2, .int .i64 s.2] 34)) (w.heap.size) 34 #[.int .i64 s.1.1, .int .i64 s.1.2, .int .i64 s.2] := (by have h := Blk.new w 34 #[.int .i64 s.1.1, .int .i64 s.1.2, .int .i64 s.2]; simpa using h)
  have B0x := o.blk (t := 34) (cs := #[.int .i64 s.1.1, .int .i64 s.1.2, .int .i64 s.2]) (g := w.heap.size) (by first | exact B0n | exact Blk.drewN B0n _ | exact Blk.drew B0n) (by simp)
  have O1x : Only [] w w1 := (by first | exact Only.trans (O0.out.alloc _) o (by simp) | exact Only.trans (Only.drewN (O0.out.alloc _) _) o (by simp) | exact Only.trans (Only.drew (O0.out.alloc _)) o (by simp))
  obtain ⟨B0c0, B0c1, B0c2, B0l⟩ := B0x.facts3
  clear B0n O0 o
  have B0 := Lib.hid B0x; have O1 := Lib.hid O1x
  clear B0x O1x
  go_wp2_with (fail)
  go_ret
  exact ⟨rfl, by first | exact O1.out | exact Only.drewN O1.out _⟩

set_option maxHeartbeats 1000000 in
theorem stright_lo (s : St) (ho : s.ok) (hr : s.1.right = true) (hc : s.2 < 0) (w : World) :
    Calls Try.prog 25 #[.agg #[.int .i64 s.1.1, .int .i64 s.1.2, .int .i64 s.2]] w fun e w' => e = .returned (.bool false) ∧ Only [] w w' := by
  have HR := Lib.hid hr
  clear hr
  have h1 : decide (s.2 < 0) = true := by simpa using hc
  clear hc
  have O0 := Lib.hid (Only.refl [] w)
  go_enter Try.func25, Try.ntmps25
  go_wp2_with (fail)
  refine (rightr ho.1 HR.out _).mono ?_
  rintro e w1 ⟨rfl, o⟩
  have B0n : Blk (w.alloc (.cells #[.int .i64 s.1.1, .int .i64 s.1.2, .int .i64 s.2] 34)) (w.heap.size) 34 #[.int .i64 s.1.1, .int .i64 s.1.2, .int .i64 s.2] := (by have h := Blk.new w 34 #[.int .i64 s.1.1, .int .i64 s.1.2, .int .i64 s.2]; simpa using h)
  have B0x := o.blk (t := 34) (cs := #[.int .i64 s.1.1, .int .i64 s.1.2, .int .i64 s.2]) (g := w.heap.size) (by first | exact B0n | exact Blk.drewN B0n _ | exact Blk.drew B0n) (by simp)
  have O1x : Only [] w w1 := (by first | exact Only.trans (O0.out.alloc _) o (by simp) | exact Only.trans (Only.drewN (O0.out.alloc _) _) o (by simp) | exact Only.trans (Only.drew (O0.out.alloc _)) o (by simp))
  obtain ⟨B0c0, B0c1, B0c2, B0l⟩ := B0x.facts3
  clear B0n O0 o
  have B0 := Lib.hid B0x; have O1 := Lib.hid O1x
  clear B0x O1x
  go_wp2_with (fail)
  go_ret
  exact ⟨rfl, by first | exact O1.out | exact Only.drewN O1.out _⟩

set_option maxHeartbeats 1000000 in
theorem stright_hi (s : St) (ho : s.ok) (hr : s.1.right = true) (hc : 0 ≤ s.2) (hd : 1099511627776 < s.2) (w : World) :
    Calls Try.prog 25 #[.agg #[.int .i64 s.1.1, .int .i64 s.1.2, .int .i64 s.2]] w fun e w' => e = .returned (.bool false) ∧ Only [] w w' := by
  have HR := Lib.hid hr
  clear hr
  have h1 : decide (s.2 < 0) = false := by simp; omega
  have h2 : decide (1099511627776 < s.2) = true := by simpa using hd
  clear hc hd
  have O0 := Lib.hid (Only.refl [] w)
  go_enter Try.func25, Try.ntmps25
  go_wp2_with (fail)
  refine (rightr ho.1 HR.out _).mono ?_
  rintro e w1 ⟨rfl, o⟩
  have B0n : Blk (w.alloc (.cells #[.int .i64 s.1.1, .int .i64 s.1.2, .int .i64 s.2] 34)) (w.heap.size) 34 #[.int .i64 s.1.1, .int .i64 s.1.2, .int .i64 s.2] := (by have h := Blk.new w 34 #[.int .i64 s.1.1, .int .i64 s.1.2, .int .i64 s.2]; simpa using h)
  have B0x := o.blk (t := 34) (cs := #[.int .i64 s.1.1, .int .i64 s.1.2, .int .i64 s.2]) (g := w.heap.size) (by first | exact B0n | exact Blk.drewN B0n _ | exact Blk.drew B0n) (by simp)
  have O1x : Only [] w w1 := (by first | exact Only.trans (O0.out.alloc _) o (by simp) | exact Only.trans (Only.drewN (O0.out.alloc _) _) o (by simp) | exact Only.trans (Only.drew (O0.out.alloc _)) o (by simp))
  obtain ⟨B0c0, B0c1, B0c2, B0l⟩ := B0x.facts3
  clear B0n O0 o
  have B0 := Lib.hid B0x; have O1 := Lib.hid O1x
  clear B0x O1x
  go_wp2_with (fail)
  go_ret
  exact ⟨rfl, by first | exact O1.out | exact Only.drewN O1.out _⟩

set_option maxHeartbeats 1000000 in
theorem stright_z (s : St) (ho : s.ok) (hr : s.1.right = true) (hc : s.2 = 0) (w : World) :
    Calls Try.prog 25 #[.agg #[.int .i64 s.1.1, .int .i64 s.1.2, .int .i64 s.2]] w fun e w' => e = .returned (.bool true) ∧ Only [] w w' := by
  have HR := Lib.hid hr
  clear hr
  obtain ⟨t, c⟩ := s
  simp only at hc
  subst hc
  have O0 := Lib.hid (Only.refl [] w)
  go_enter Try.func25, Try.ntmps25
  go_wp2_with (fail)
  refine (rightr ho.1 HR.out _).mono ?_
  rintro e w1 ⟨rfl, o⟩
  have B0n : Blk (w.alloc (.cells #[.int .i64 t.1, .int .i64 t.2, .int .i64 0] 34)) (w.heap.size) 34 #[.int .i64 t.1, .int .i64 t.2, .int .i64 0] := (by have h := Blk.new w 34 #[.int .i64 t.1, .int .i64 t.2, .int .i64 0]; simpa using h)
  have B0x := o.blk (t := 34) (cs := #[.int .i64 t.1, .int .i64 t.2, .int .i64 0]) (g := w.heap.size) (by first | exact B0n | exact Blk.drewN B0n _ | exact Blk.drew B0n) (by simp)
  have O1x : Only [] w w1 := (by first | exact Only.trans (O0.out.alloc _) o (by simp) | exact Only.trans (Only.drewN (O0.out.alloc _) _) o (by simp) | exact Only.trans (Only.drew (O0.out.alloc _)) o (by simp))
  obtain ⟨B0c0, B0c1, B0c2, B0l⟩ := B0x.facts3
  clear B0n O0 o
  have B0 := Lib.hid B0x; have O1 := Lib.hid O1x
  clear B0x O1x
  go_wp2_with (fail)
  refine wp_region_facts 9 [] (fr := ?fr) (tl := ?tl) (fun i v wv => match i with
    | 0 => v = .pointer (some ⟨w.heap.size, 2, none⟩)
    | 1 => v = .int .i64 0
    | 2 => v = .bool true
    | 3 => v = .bool true
    | 4 => v = undef
    | 5 => v = undef
    | 6 => v = undef
    | 7 => v = undef
    | 8 => v = .bool true
    | _ => True) (by kernel_rfl) (by kernel_rfl) (by kernel_rfl) (by kernel_rfl) (by decide) ?htl ?hfr ?stab ?steps ?done
  case htl => simp only [List.drop_succ_cons, List.drop_zero]; rfl
  case hfr => intro vals; simp only [putAll, dstAt, Act.put, List.getElem?_toArray, List.getElem?_cons_zero, List.getElem?_cons_succ, Option.bind_some, List.setIfInBounds_toArray, List.set_cons_zero, List.set_cons_succ]; rfl
  case stab =>
    intro i v wa wb h
    try dsimp only
    split <;> first | exact id | fail
  case steps =>
    refine ⟨?_, ?_, ?_, ?_, ?_, ?_, ?_, ?_, ?_, trivial⟩
    · intro vals wr hR hp K hK
      dsimp only at hK ⊢
      clear hp
      unfold RunsOp
      go_simp
      exact hK.out _ _ ⟨_, rfl, Only.refl _ _, rfl⟩
    · intro vals wr hR hp K hK
      dsimp only at hK ⊢
      obtain ⟨p0, -⟩ := hp
      replace p0 := p0 rfl
      dsimp only at p0
      rw [p0] at hK ⊢
      clear p0
      unfold RunsOp
      have tb0 := hR.blk (Blk.drew B0.out) (by simp)
      obtain ⟨c00, c01, c02, cl0⟩ := tb0.facts3
      clear tb0
      go_simp
      exact hK.out _ _ ⟨_, rfl, Only.refl _ _, rfl⟩
    · intro vals wr hR hp K hK
      dsimp only at hK ⊢
      obtain ⟨p1, -⟩ := hp
      replace p1 := p1 rfl
      dsimp only at p1
      rw [p1] at hK ⊢
      clear p1
      unfold RunsOp
      go_simp
      exact hK.out _ _ ⟨_, rfl, Only.refl _ _, rfl⟩
    · intro vals wr hR hp K hK
      dsimp only at hK ⊢
      obtain ⟨p2, -⟩ := hp
      replace p2 := p2 rfl
      dsimp only at p2
      rw [p2] at hK ⊢
      clear p2
      unfold RunsOp
      go_simp
      exact hK.out _ _ ⟨_, rfl, Only.refl _ _, rfl⟩
    · intro vals wr hR hp K hK
      dsimp only at hK ⊢
      obtain ⟨p3, -⟩ := hp
      replace p3 := p3 rfl
      dsimp only at p3
      rw [p3] at hK ⊢
      clear p3
      unfold RunsOp
      go_simp
      exact hK.out _ _ ⟨_, rfl, Only.refl _ _, rfl⟩
    · intro vals wr hR hp K hK
      dsimp only at hK ⊢
      obtain ⟨p4, p3, -⟩ := hp
      replace p4 := p4 rfl
      replace p3 := p3 rfl
      dsimp only at p4 p3
      rw [p4, p3] at hK ⊢
      clear p4 p3
      unfold RunsOp
      go_simp
      exact hK.out _ _ ⟨_, rfl, Only.refl _ _, rfl⟩
    · intro vals wr hR hp K hK
      dsimp only at hK ⊢
      obtain ⟨p3, -, -⟩ := hp
      replace p3 := p3 rfl
      dsimp only at p3
      rw [p3] at hK ⊢
      clear p3
      unfold RunsOp
      go_simp
      exact hK.out _ _ ⟨_, rfl, Only.refl _ _, rfl⟩
    · intro vals wr hR hp K hK
      dsimp only at hK ⊢
      obtain ⟨p5, p6, p3, -⟩ := hp
      replace p5 := p5 rfl
      replace p6 := p6 rfl
      replace p3 := p3 rfl
      dsimp only at p5 p6 p3
      rw [p5, p6, p3] at hK ⊢
      clear p5 p6 p3
      unfold RunsOp
      go_simp
      exact hK.out _ _ ⟨_, rfl, Only.refl _ _, rfl⟩
    · intro vals wr hR hp K hK
      dsimp only at hK ⊢
      obtain ⟨p3, p7, -⟩ := hp
      replace p3 := p3 rfl
      replace p7 := p7 rfl
      dsimp only at p3 p7
      rw [p3, p7] at hK ⊢
      clear p3 p7
      unfold RunsOp
      go_simp
      exact hK.out _ _ ⟨_, rfl, Only.refl _ _, rfl⟩
  case done =>
    intro vals wd hR hF
    have f8 : vals 8 = .bool true := hF 8 (by decide)
    rw [f8]
    have O9 := Lib.hid (Only.trans (O1.out.drew) hR (by simp))
    clear hF f8 hR
    go_wp2_with (fail)
    go_ret
    exact ⟨rfl, O9.out⟩

set_option maxHeartbeats 1000000 in
theorem stright_n (s : St) (ho : s.ok) (hr : s.1.right = true) (hc : 0 < s.2) (hd : s.2 ≤ 1099511627776) (he : s.1 = (1, 0)) (w : World) :
    Calls Try.prog 25 #[.agg #[.int .i64 s.1.1, .int .i64 s.1.2, .int .i64 s.2]] w fun e w' => e = .returned (.bool false) ∧ Only [] w w' := by
  have HR := Lib.hid hr
  clear hr
  have h1 : decide (s.2 < 0) = false := by simp; omega
  have h2 : decide (1099511627776 < s.2) = false := by simp; omega
  have h3 : (s.2 == 0) = false := by simp; omega
  have hNE : ∀ W, (binOp .neq 24 (.agg #[.int .i64 s.1.1, .int .i64 s.1.2]) (.agg #[.int .i64 1, .int .i64 0])).run Try.prog W = .ok (.bool false) W := fun W => by rw [neq_times]; rw [decide_eq_true ⟨by rw [he], by rw [he]⟩]; rfl
  clear hc hd he
  have O0 := Lib.hid (Only.refl [] w)
  go_enter Try.func25, Try.ntmps25
  go_wp2_with (fail)
  refine (rightr ho.1 HR.out _).mono ?_
  rintro e w1 ⟨rfl, o⟩
  have B0n : Blk (w.alloc (.cells #[.int .i64 s.1.1, .int .i64 s.1.2, .int .i64 s.2] 34)) (w.heap.size) 34 #[.int .i64 s.1.1, .int .i64 s.1.2, .int .i64 s.2] := (by have h := Blk.new w 34 #[.int .i64 s.1.1, .int .i64 s.1.2, .int .i64 s.2]; simpa using h)
  have B0x := o.blk (t := 34) (cs := #[.int .i64 s.1.1, .int .i64 s.1.2, .int .i64 s.2]) (g := w.heap.size) (by first | exact B0n | exact Blk.drewN B0n _ | exact Blk.drew B0n) (by simp)
  have O1x : Only [] w w1 := (by first | exact Only.trans (O0.out.alloc _) o (by simp) | exact Only.trans (Only.drewN (O0.out.alloc _) _) o (by simp) | exact Only.trans (Only.drew (O0.out.alloc _)) o (by simp))
  obtain ⟨B0c0, B0c1, B0c2, B0l⟩ := B0x.facts3
  clear B0n O0 o
  have B0 := Lib.hid B0x; have O1 := Lib.hid O1x
  clear B0x O1x
  go_wp2_with (fail)
  refine wp_region_facts 9 [] (fr := ?fr) (tl := ?tl) (fun i v wv => match i with
    | 0 => v = .pointer (some ⟨w.heap.size, 2, none⟩)
    | 1 => v = .int .i64 s.2
    | 2 => v = .bool false
    | 3 => v = .bool false
    | 4 => v = .pointer (some ⟨w.heap.size, 0, none⟩)
    | 5 => v = .agg #[.int .i64 s.1.1, .int .i64 s.1.2]
    | 6 => v = .agg #[.int .i64 1, .int .i64 0]
    | 7 => v = .bool false
    | 8 => v = .bool false
    | _ => True) (by kernel_rfl) (by kernel_rfl) (by kernel_rfl) (by kernel_rfl) (by decide) ?htl ?hfr ?stab ?steps ?done
  case htl => simp only [List.drop_succ_cons, List.drop_zero]; rfl
  case hfr => intro vals; simp only [putAll, dstAt, Act.put, List.getElem?_toArray, List.getElem?_cons_zero, List.getElem?_cons_succ, Option.bind_some, List.setIfInBounds_toArray, List.set_cons_zero, List.set_cons_succ]; rfl
  case stab =>
    intro i v wa wb h
    try dsimp only
    split <;> first | exact id | fail
  case steps =>
    refine ⟨?_, ?_, ?_, ?_, ?_, ?_, ?_, ?_, ?_, trivial⟩
    · intro vals wr hR hp K hK
      dsimp only at hK ⊢
      clear hp
      unfold RunsOp
      go_simp
      exact hK.out _ _ ⟨_, rfl, Only.refl _ _, rfl⟩
    · intro vals wr hR hp K hK
      dsimp only at hK ⊢
      obtain ⟨p0, -⟩ := hp
      replace p0 := p0 rfl
      dsimp only at p0
      rw [p0] at hK ⊢
      clear p0
      unfold RunsOp
      have tb0 := hR.blk (Blk.drew B0.out) (by simp)
      obtain ⟨c00, c01, c02, cl0⟩ := tb0.facts3
      clear tb0
      go_simp
      exact hK.out _ _ ⟨_, rfl, Only.refl _ _, rfl⟩
    · intro vals wr hR hp K hK
      dsimp only at hK ⊢
      obtain ⟨p1, -⟩ := hp
      replace p1 := p1 rfl
      dsimp only at p1
      rw [p1] at hK ⊢
      clear p1
      unfold RunsOp
      go_simp
      exact hK.out _ _ ⟨_, rfl, Only.refl _ _, rfl⟩
    · intro vals wr hR hp K hK
      dsimp only at hK ⊢
      obtain ⟨p2, -⟩ := hp
      replace p2 := p2 rfl
      dsimp only at p2
      rw [p2] at hK ⊢
      clear p2
      unfold RunsOp
      go_simp
      exact hK.out _ _ ⟨_, rfl, Only.refl _ _, rfl⟩
    · intro vals wr hR hp K hK
      dsimp only at hK ⊢
      obtain ⟨p3, -⟩ := hp
      replace p3 := p3 rfl
      dsimp only at p3
      rw [p3] at hK ⊢
      clear p3
      unfold RunsOp
      go_simp
      exact hK.out _ _ ⟨_, rfl, Only.refl _ _, rfl⟩
    · intro vals wr hR hp K hK
      dsimp only at hK ⊢
      obtain ⟨p4, p3, -⟩ := hp
      replace p4 := p4 rfl
      replace p3 := p3 rfl
      dsimp only at p4 p3
      rw [p4, p3] at hK ⊢
      clear p4 p3
      unfold RunsOp
      have tb0 := hR.blk (Blk.drew B0.out) (by simp)
      obtain ⟨c00, c01, c02, cl0⟩ := tb0.facts3
      clear tb0
      go_simp
      exact hK.out _ _ ⟨_, rfl, Only.refl _ _, rfl⟩
    · intro vals wr hR hp K hK
      dsimp only at hK ⊢
      obtain ⟨p3, -, -⟩ := hp
      replace p3 := p3 rfl
      dsimp only at p3
      rw [p3] at hK ⊢
      clear p3
      unfold RunsOp
      go_simp
      refine (never_any _).mono ?_
      rintro e w2 ⟨rfl, o2⟩
      exact hK.out _ _ ⟨_, rfl, o2, rfl⟩
    · intro vals wr hR hp K hK
      dsimp only at hK ⊢
      obtain ⟨p5, p6, p3, -⟩ := hp
      replace p5 := p5 rfl
      replace p6 := p6 rfl
      replace p3 := p3 rfl
      dsimp only at p5 p6 p3
      obtain p6 := p6
      rw [p5, p6, p3] at hK ⊢
      clear p5 p6 p3
      unfold RunsOp
      go_simp
      exact hK.out _ _ ⟨_, rfl, Only.refl _ _, rfl⟩
    · intro vals wr hR hp K hK
      dsimp only at hK ⊢
      obtain ⟨p3, p7, -⟩ := hp
      replace p3 := p3 rfl
      replace p7 := p7 rfl
      dsimp only at p3 p7
      rw [p3, p7] at hK ⊢
      clear p3 p7
      unfold RunsOp
      go_simp
      exact hK.out _ _ ⟨_, rfl, Only.refl _ _, rfl⟩
  case done =>
    intro vals wd hR hF
    have f8 : vals 8 = .bool false := hF 8 (by decide)
    rw [f8]
    have O9 := Lib.hid (Only.trans (O1.out.drew) hR (by simp))
    clear hF f8 hR
    go_wp2_with (fail)
    go_ret
    exact ⟨rfl, O9.out⟩

set_option maxHeartbeats 1000000 in
theorem stright_y (s : St) (ho : s.ok) (hr : s.1.right = true) (hc : 0 < s.2) (hd : s.2 ≤ 1099511627776) (he : s.1 ≠ (1, 0)) (w : World) :
    Calls Try.prog 25 #[.agg #[.int .i64 s.1.1, .int .i64 s.1.2, .int .i64 s.2]] w fun e w' => e = .returned (.bool true) ∧ Only [] w w' := by
  have HR := Lib.hid hr
  clear hr
  have h1 : decide (s.2 < 0) = false := by simp; omega
  have h2 : decide (1099511627776 < s.2) = false := by simp; omega
  have h3 : (s.2 == 0) = false := by simp; omega
  have hNE : ∀ W, (binOp .neq 24 (.agg #[.int .i64 s.1.1, .int .i64 s.1.2]) (.agg #[.int .i64 1, .int .i64 0])).run Try.prog W = .ok (.bool true) W := fun W => by rw [neq_times]; rw [decide_eq_false (fun h => he (Prod.ext h.1 h.2))]; rfl
  clear hc hd he
  have O0 := Lib.hid (Only.refl [] w)
  go_enter Try.func25, Try.ntmps25
  go_wp2_with (fail)
  refine (rightr ho.1 HR.out _).mono ?_
  rintro e w1 ⟨rfl, o⟩
  have B0n : Blk (w.alloc (.cells #[.int .i64 s.1.1, .int .i64 s.1.2, .int .i64 s.2] 34)) (w.heap.size) 34 #[.int .i64 s.1.1, .int .i64 s.1.2, .int .i64 s.2] := (by have h := Blk.new w 34 #[.int .i64 s.1.1, .int .i64 s.1.2, .int .i64 s.2]; simpa using h)
  have B0x := o.blk (t := 34) (cs := #[.int .i64 s.1.1, .int .i64 s.1.2, .int .i64 s.2]) (g := w.heap.size) (by first | exact B0n | exact Blk.drewN B0n _ | exact Blk.drew B0n) (by simp)
  have O1x : Only [] w w1 := (by first | exact Only.trans (O0.out.alloc _) o (by simp) | exact Only.trans (Only.drewN (O0.out.alloc _) _) o (by simp) | exact Only.trans (Only.drew (O0.out.alloc _)) o (by simp))
  obtain ⟨B0c0, B0c1, B0c2, B0l⟩ := B0x.facts3
  clear B0n O0 o
  have B0 := Lib.hid B0x; have O1 := Lib.hid O1x
  clear B0x O1x
  go_wp2_with (fail)
  refine wp_region_facts 9 [] (fr := ?fr) (tl := ?tl) (fun i v wv => match i with
    | 0 => v = .pointer (some ⟨w.heap.size, 2, none⟩)
    | 1 => v = .int .i64 s.2
    | 2 => v = .bool false
    | 3 => v = .bool false
    | 4 => v = .pointer (some ⟨w.heap.size, 0, none⟩)
    | 5 => v = .agg #[.int .i64 s.1.1, .int .i64 s.1.2]
    | 6 => v = .agg #[.int .i64 1, .int .i64 0]
    | 7 => v = .bool true
    | 8 => v = .bool true
    | _ => True) (by kernel_rfl) (by kernel_rfl) (by kernel_rfl) (by kernel_rfl) (by decide) ?htl ?hfr ?stab ?steps ?done
  case htl => simp only [List.drop_succ_cons, List.drop_zero]; rfl
  case hfr => intro vals; simp only [putAll, dstAt, Act.put, List.getElem?_toArray, List.getElem?_cons_zero, List.getElem?_cons_succ, Option.bind_some, List.setIfInBounds_toArray, List.set_cons_zero, List.set_cons_succ]; rfl
  case stab =>
    intro i v wa wb h
    try dsimp only
    split <;> first | exact id | fail
  case steps =>
    refine ⟨?_, ?_, ?_, ?_, ?_, ?_, ?_, ?_, ?_, trivial⟩
    · intro vals wr hR hp K hK
      dsimp only at hK ⊢
      clear hp
      unfold RunsOp
      go_simp
      exact hK.out _ _ ⟨_, rfl, Only.refl _ _, rfl⟩
    · intro vals wr hR hp K hK
      dsimp only at hK ⊢
      obtain ⟨p0, -⟩ := hp
      replace p0 := p0 rfl
      dsimp only at p0
      rw [p0] at hK ⊢
      clear p0
      unfold RunsOp
      have tb0 := hR.blk (Blk.drew B0.out) (by simp)
      obtain ⟨c00, c01, c02, cl0⟩ := tb0.facts3
      clear tb0
      go_simp
      exact hK.out _ _ ⟨_, rfl, Only.refl _ _, rfl⟩
    · intro vals wr hR hp K hK
      dsimp only at hK ⊢
      obtain ⟨p1, -⟩ := hp
      replace p1 := p1 rfl
      dsimp only at p1
      rw [p1] at hK ⊢
      clear p1
      unfold RunsOp
      go_simp
      exact hK.out _ _ ⟨_, rfl, Only.refl _ _, rfl⟩
    · intro vals wr hR hp K hK
      dsimp only at hK ⊢
      obtain ⟨p2, -⟩ := hp
      replace p2 := p2 rfl
      dsimp only at p2
      rw [p2] at hK ⊢
      clear p2
      unfold RunsOp
      go_simp
      exact hK.out _ _ ⟨_, rfl, Only.refl _ _, rfl⟩
    · intro vals wr hR hp K hK
      dsimp only at hK ⊢
      obtain ⟨p3, -⟩ := hp
      replace p3 := p3 rfl
      dsimp only at p3
      rw [p3] at hK ⊢
      clear p3
      unfold RunsOp
      go_simp
      exact hK.out _ _ ⟨_, rfl, Only.refl _ _, rfl⟩
    · intro vals wr hR hp K hK
      dsimp only at hK ⊢
      obtain ⟨p4, p3, -⟩ := hp
      replace p4 := p4 rfl
      replace p3 := p3 rfl
      dsimp only at p4 p3
      rw [p4, p3] at hK ⊢
      clear p4 p3
      unfold RunsOp
      have tb0 := hR.blk (Blk.drew B0.out) (by simp)
      obtain ⟨c00, c01, c02, cl0⟩ := tb0.facts3
      clear tb0
      go_simp
      exact hK.out _ _ ⟨_, rfl, Only.refl _ _, rfl⟩
    · intro vals wr hR hp K hK
      dsimp only at hK ⊢
      obtain ⟨p3, -, -⟩ := hp
      replace p3 := p3 rfl
      dsimp only at p3
      rw [p3] at hK ⊢
      clear p3
      unfold RunsOp
      go_simp
      refine (never_any _).mono ?_
      rintro e w2 ⟨rfl, o2⟩
      exact hK.out _ _ ⟨_, rfl, o2, rfl⟩
    · intro vals wr hR hp K hK
      dsimp only at hK ⊢
      obtain ⟨p5, p6, p3, -⟩ := hp
      replace p5 := p5 rfl
      replace p6 := p6 rfl
      replace p3 := p3 rfl
      dsimp only at p5 p6 p3
      obtain p6 := p6
      rw [p5, p6, p3] at hK ⊢
      clear p5 p6 p3
      unfold RunsOp
      go_simp
      exact hK.out _ _ ⟨_, rfl, Only.refl _ _, rfl⟩
    · intro vals wr hR hp K hK
      dsimp only at hK ⊢
      obtain ⟨p3, p7, -⟩ := hp
      replace p3 := p3 rfl
      replace p7 := p7 rfl
      dsimp only at p3 p7
      rw [p3, p7] at hK ⊢
      clear p3 p7
      unfold RunsOp
      go_simp
      exact hK.out _ _ ⟨_, rfl, Only.refl _ _, rfl⟩
  case done =>
    intro vals wd hR hF
    have f8 : vals 8 = .bool true := hF 8 (by decide)
    rw [f8]
    have O9 := Lib.hid (Only.trans (O1.out.drew) hR (by simp))
    clear hF f8 hR
    go_wp2_with (fail)
    go_ret
    exact ⟨rfl, O9.out⟩

theorem stright_any (s : St) (ho : s.ok) (w : World) : Calls Try.prog 25 #[.agg #[.int .i64 s.1.1, .int .i64 s.1.2, .int .i64 s.2]] w fun e w' => e = .returned (.bool (stR s)) ∧ Only [] w w' := by
  unfold stR mostS
  by_cases hr : s.1.right = true
  · rw [hr]
    by_cases h1 : 0 ≤ s.2
    · rw [decide_eq_true h1]
      by_cases h2 : s.2 ≤ 1099511627776
      · rw [decide_eq_true h2]
        by_cases h3 : s.2 = 0
        · rw [decide_eq_true h3]; exact stright_z s ho hr h3 w
        · rw [decide_eq_false h3]
          by_cases h4 : s.1 = (1, 0)
          · rw [decide_eq_true h4]; exact stright_n s ho hr (by omega) h2 h4 w
          · rw [decide_eq_false h4]; exact stright_y s ho hr (by omega) h2 h4 w
      · rw [decide_eq_false h2]; exact stright_hi s ho hr h1 (by omega) w
    · rw [decide_eq_false h1]; exact stright_lo s ho hr (by omega) w
  · have hr' : s.1.right = false := by simpa using hr
    rw [hr']; exact stright_w s ho hr' w
theorem strightr {s : St} (ho : s.ok) {x : Bool} (h : stR s = x) (w : World) : Calls Try.prog 25 #[.agg #[.int .i64 s.1.1, .int .i64 s.1.2, .int .i64 s.2]] w fun e w' => e = .returned (.bool x) ∧ Only [] w w' := by
  have := stright_any s ho w
  rwa [h] at this

theorem stnever_any (w : World) : Calls Try.prog 26 #[] w fun e w' => e = .returned (.agg #[.int .i64 1, .int .i64 0, .int .i64 0]) ∧ Only [] w w' := by
  have T0 := Lib.hid (Blk.new w 34 #[.int .i64 0, .int .i64 0, .int .i64 0])
  go_enter Try.func26, Try.ntmps26
  go_wp2_with (fail)
  refine (never_any _).mono ?_
  rintro e w1 ⟨rfl, o⟩
  have t1 := o.blk T0.out (by simp)
  obtain ⟨c0, c1, c2, cl⟩ := t1.facts3
  have f0 := t1.frozen 0
  have f1 := t1.frozen 1
  have f2 := t1.frozen 2
  have O1 := Lib.hid (((Only.refl [] w).alloc (.cells #[.int .i64 0, .int .i64 0, .int .i64 0] 34)).trans o (by simp))
  clear o t1
  go_wp2_with (fail)
  exact bodyPost_ret (v := .agg #[.int .i64 1, .int .i64 0, .int .i64 0]) (by simp [results, Try.results26, go_sem, c0, c1, c2]) rfl ⟨rfl, ((O1.out.setCell (.inr (by simp)) _).setCell (.inr (by simp)) _).setCell (.inr (by simp)) _⟩

/-- cmp.Compare of ints -/
def cmpJ (a b : Int) : Int := if a < b then -1 else if b < a then 1 else 0
theorem isnan_any (a : Int) (w : World) : Calls Try.prog 58 #[.int .i64 a] w fun e w' => e = .returned (.bool false) ∧ w' = w := by
  go_enter Try.func58, Try.ntmps58
  go_wp2_with (fail)
  go_ret
  exact ⟨by simp, rfl⟩
theorem compare_any (a b : Int) (w : World) : Calls Try.prog 54 #[.int .i64 a, .int .i64 b] w fun e w' => e = .returned (.int .i64 (cmpJ a b)) ∧ w' = w := by
  unfold cmpJ
  by_cases h1 : a < b
  · rw [if_pos h1]
    go_enter Try.func54, Try.ntmps54
    go_wp2_with (go_at_call 58; refine (isnan_any _ _).mono ?_; rintro e w' ⟨rfl, rfl⟩)
    go_ret
    exact ⟨rfl, rfl⟩
  · rw [if_neg h1]
    by_cases h2 : b < a
    · rw [if_pos h2]
      go_enter Try.func54, Try.ntmps54
      go_wp2_with (go_at_call 58; refine (isnan_any _ _).mono ?_; rintro e w' ⟨rfl, rfl⟩)
      go_ret
      exact ⟨rfl, rfl⟩
    · rw [if_neg h2]
      go_enter Try.func54, Try.ntmps54
      go_wp2_with (go_at_call 58; refine (isnan_any _ _).mono ?_; rintro e w' ⟨rfl, rfl⟩)
      go_ret
      exact ⟨rfl, rfl⟩
end Go.Proofs.Ytcggeogpanackaa
