/- Stamps compared: the program's and the reference's. -/
import Derived.Test.YtcggeogpanackaaSt1
namespace Go.Proofs.Ytcggeogpanackaa
open Go.RowKit Go.Kx
set_option maxRecDepth 20000

theorem only_three {w w1 : World} {p q r : Addr} (h : Only [] w w1) (hp : w.heap.size ≤ p.block) (hq : w.heap.size ≤ q.block) (hr : w.heap.size ≤ r.block) (x y z : Value) : Only [] w (((w1.setCell p x).setCell q y).setCell r z) :=
  ((h.setCell (.inr hp) x).setCell (.inr hq) y).setCell (.inr hr) z

/-- cmp.Or of two ints -/
theorem or_any {g : Nat} {x y : Int} {w : World} (hb : Blk w g 3 #[.int .i64 x, .int .i64 y]) : Calls Try.prog 52 #[.slice (some ⟨g, 0, none⟩) 2 2] w fun e w' => e = .returned (.int .i64 (if x ≠ 0 then x else y)) ∧ w' = w := by
  obtain ⟨c0, c1, cl⟩ := hb.facts2
  clear hb cl
  by_cases hx : x = 0
  · subst hx
    have e : (if (0 : Int) ≠ 0 then (0 : Int) else y) = y := by simp
    rw [e]
    clear e
    by_cases hy : y = 0
    · subst hy
      go_enter Try.func52, Try.ntmps52
      go_wp2_with (fail)
      go_loop [8] (fun i => ∃ k : Nat, k ≤ 2 ∧ i = .int .i64 k) (fun i => 2 - (intOf i).toNat)
      case atStart => exact ⟨0, by omega, rfl⟩
      case round =>
        obtain ⟨k, hk, rfl⟩ := hrel
        by_cases h0 : k = 0
        · subst h0
          go_wp2_with (fail)
          go_round
          case rel => exact ⟨1, by omega, rfl⟩
          case measure => simp [intOf]
        · by_cases h1 : k = 1
          · subst h1
            go_wp2_with (fail)
            go_round
            case rel => exact ⟨2, by omega, rfl⟩
            case measure => simp [intOf]
          · obtain rfl : k = 2 := by omega
            go_wp2_with (fail)
            go_ret
            exact ⟨rfl, rfl⟩
    · have hy' : (y != 0) = true := by simpa using hy
      clear hy
      go_enter Try.func52, Try.ntmps52
      go_wp2_with (fail)
      go_loop [8] (fun i => ∃ k : Nat, k ≤ 1 ∧ i = .int .i64 k) (fun i => 2 - (intOf i).toNat)
      case atStart => exact ⟨0, by omega, rfl⟩
      case round =>
        obtain ⟨k, hk, rfl⟩ := hrel
        by_cases h0 : k = 0
        · subst h0
          go_wp2_with (fail)
          go_round
          case rel => exact ⟨1, by omega, rfl⟩
          case measure => simp [intOf]
        · obtain rfl : k = 1 := by omega
          go_wp2_with (fail)
          go_ret
          exact ⟨rfl, rfl⟩
  · have hx' : (x != 0) = true := by simpa using hx
    rw [if_pos hx]
    clear hx
    go_enter Try.func52, Try.ntmps52
    go_wp2_with (fail)
    go_loop [8] (fun i => i = .int .i64 0) (fun i => 2 - (intOf i).toNat)
    case atStart => rfl
    case round =>
      obtain rfl := hrel
      go_wp2_with (fail)
      go_ret
      exact ⟨rfl, rfl⟩

def stC (a b : St) : Int := if stR a = true ∧ stR b = true then (if cmpT a.1 b.1 ≠ 0 then cmpT a.1 b.1 else cmpJ a.2 b.2) else 0
theorem stR_right {s : St} (h : stR s = true) : s.1.right = true := by
  unfold stR at h
  simp only [Bool.and_eq_true] at h
  exact h.1.1.1

set_option maxHeartbeats 1000000 in
theorem stcmp_w1 (a b : St) (ha : a.ok) (ra : stR a = false) (w : World) :
    Calls Try.prog 42 #[.agg #[.int .i64 a.1.1, .int .i64 a.1.2, .int .i64 a.2], .agg #[.int .i64 b.1.1, .int .i64 b.1.2, .int .i64 b.2]] w fun e w' => e = .returned (.int .i64 0) ∧ Only [] w w' := by
  have RA := Lib.hid ra
  clear ra
  have O0 := Lib.hid (Only.refl [] w)
  go_enter Try.func42, Try.ntmps42
  go_wp2_with (fail)
  refine (strightr ha RA.out _).mono ?_
  rintro e w1 ⟨rfl, o⟩
  have B0n : Blk (w.alloc (.cells #[.int .i64 a.1.1, .int .i64 a.1.2, .int .i64 a.2] 34)) (w.heap.size) 34 #[.int .i64 a.1.1, .int .i64 a.1.2, .int .i64 a.2] := (by have h := Blk.new w 34 #[.int .i64 a.1.1, .int .i64 a.1.2, .int .i64 a.2]; simpa using h)
  have B1n : Blk ((w.alloc (.cells #[.int .i64 a.1.1, .int .i64 a.1.2, .int .i64 a.2] 34)).alloc (.cells #[.int .i64 b.1.1, .int .i64 b.1.2, .int .i64 b.2] 34)) (w.heap.size + 1) 34 #[.int .i64 b.1.1, .int .i64 b.1.2, .int .i64 b.2] := (by have h := Blk.new (w.alloc (.cells #[.int .i64 a.1.1, .int .i64 a.1.2, .int .i64 a.2] 34)) 34 #[.int .i64 b.1.1, .int .i64 b.1.2, .int .i64 b.2]; simpa using h)
  have B0x := o.blk (t := 34) (cs := #[.int .i64 a.1.1, .int .i64 a.1.2, .int .i64 a.2]) (g := w.heap.size) (by first | exact (B0n.alloc _) | exact Blk.drewN (B0n.alloc _) _ | exact Blk.drew (B0n.alloc _)) (by simp)
  have B1x := o.blk (t := 34) (cs := #[.int .i64 b.1.1, .int .i64 b.1.2, .int .i64 b.2]) (g := w.heap.size + 1) (by first | exact B1n | exact Blk.drewN B1n _ | exact Blk.drew B1n) (by simp)
  have O1x : Only [] w w1 := (by first | exact Only.trans ((O0.out.alloc _).alloc _) o (by simp) | exact Only.trans (Only.drewN ((O0.out.alloc _).alloc _) _) o (by simp) | exact Only.trans (Only.drew ((O0.out.alloc _).alloc _)) o (by simp))
  obtain ⟨B0c0, B0c1, B0c2, B0l⟩ := B0x.facts3
  obtain ⟨B1c0, B1c1, B1c2, B1l⟩ := B1x.facts3
  clear B0n B1n O0 o
  have B0 := Lib.hid B0x; have B1 := Lib.hid B1x; have O1 := Lib.hid O1x
  clear B0x B1x O1x
  go_wp2_with (fail)
  go_ret
  exact ⟨rfl, by first | exact O1.out | exact Only.drewN O1.out _⟩

set_option maxHeartbeats 1000000 in
theorem stcmp_w2 (a b : St) (ha : a.ok) (hb : b.ok) (ra : stR a = true) (rb : stR b = false) (w : World) :
    Calls Try.prog 42 #[.agg #[.int .i64 a.1.1, .int .i64 a.1.2, .int .i64 a.2], .agg #[.int .i64 b.1.1, .int .i64 b.1.2, .int .i64 b.2]] w fun e w' => e = .returned (.int .i64 0) ∧ Only [] w w' := by
  have RA := Lib.hid ra
  have RB := Lib.hid rb
  clear ra rb
  have O0 := Lib.hid (Only.refl [] w)
  go_enter Try.func42, Try.ntmps42
  go_wp2_with (fail)
  refine (strightr ha RA.out _).mono ?_
  rintro e w1 ⟨rfl, o⟩
  have B0n : Blk (w.alloc (.cells #[.int .i64 a.1.1, .int .i64 a.1.2, .int .i64 a.2] 34)) (w.heap.size) 34 #[.int .i64 a.1.1, .int .i64 a.1.2, .int .i64 a.2] := (by have h := Blk.new w 34 #[.int .i64 a.1.1, .int .i64 a.1.2, .int .i64 a.2]; simpa using h)
  have B1n : Blk ((w.alloc (.cells #[.int .i64 a.1.1, .int .i64 a.1.2, .int .i64 a.2] 34)).alloc (.cells #[.int .i64 b.1.1, .int .i64 b.1.2, .int .i64 b.2] 34)) (w.heap.size + 1) 34 #[.int .i64 b.1.1, .int .i64 b.1.2, .int .i64 b.2] := (by have h := Blk.new (w.alloc (.cells #[.int .i64 a.1.1, .int .i64 a.1.2, .int .i64 a.2] 34)) 34 #[.int .i64 b.1.1, .int .i64 b.1.2, .int .i64 b.2]; simpa using h)
  have B0x := o.blk (t := 34) (cs := #[.int .i64 a.1.1, .int .i64 a.1.2, .int .i64 a.2]) (g := w.heap.size) (by first | exact (B0n.alloc _) | exact Blk.drewN (B0n.alloc _) _ | exact Blk.drew (B0n.alloc _)) (by simp)
  have B1x := o.blk (t := 34) (cs := #[.int .i64 b.1.1, .int .i64 b.1.2, .int .i64 b.2]) (g := w.heap.size + 1) (by first | exact B1n | exact Blk.drewN B1n _ | exact Blk.drew B1n) (by simp)
  have O1x : Only [] w w1 := (by first | exact Only.trans ((O0.out.alloc _).alloc _) o (by simp) | exact Only.trans (Only.drewN ((O0.out.alloc _).alloc _) _) o (by simp) | exact Only.trans (Only.drew ((O0.out.alloc _).alloc _)) o (by simp))
  obtain ⟨B0c0, B0c1, B0c2, B0l⟩ := B0x.facts3
  obtain ⟨B1c0, B1c1, B1c2, B1l⟩ := B1x.facts3
  clear B0n B1n O0 o
  have B0 := Lib.hid B0x; have B1 := Lib.hid B1x; have O1 := Lib.hid O1x
  clear B0x B1x O1x
  go_wp2_with (fail)
  refine (strightr hb RB.out _).mono ?_
  rintro e w2 ⟨rfl, o⟩
  have B0x := o.blk (t := 34) (cs := #[.int .i64 a.1.1, .int .i64 a.1.2, .int .i64 a.2]) (g := w.heap.size) (by first | exact B0.out | exact Blk.drewN B0.out _ | exact Blk.drew B0.out) (by simp)
  have B1x := o.blk (t := 34) (cs := #[.int .i64 b.1.1, .int .i64 b.1.2, .int .i64 b.2]) (g := w.heap.size + 1) (by first | exact B1.out | exact Blk.drewN B1.out _ | exact Blk.drew B1.out) (by simp)
  have O2x : Only [] w w2 := (by first | exact Only.trans O1.out o (by simp) | exact Only.trans (Only.drewN O1.out _) o (by simp) | exact Only.trans (Only.drew O1.out) o (by simp))
  obtain ⟨B0c0, B0c1, B0c2, B0l⟩ := B0x.facts3
  obtain ⟨B1c0, B1c1, B1c2, B1l⟩ := B1x.facts3
  clear B0 B1 O1 o
  have B0 := Lib.hid B0x; have B1 := Lib.hid B1x; have O2 := Lib.hid O2x
  clear B0x B1x O2x
  go_wp2_with (fail)
  go_ret
  exact ⟨rfl, by first | exact O2.out | exact Only.drewN O2.out _⟩

set_option maxHeartbeats 1000000 in
theorem stcmp_r (a b : St) (ha : a.ok) (hb : b.ok) (ra : stR a = true) (rb : stR b = true) {x y z : Int} (hx : cmpT a.1 b.1 = x) (hy : cmpJ a.2 b.2 = y) (hz : (if x ≠ 0 then x else y) = z) (w : World) :
    Calls Try.prog 42 #[.agg #[.int .i64 a.1.1, .int .i64 a.1.2, .int .i64 a.2], .agg #[.int .i64 b.1.1, .int .i64 b.1.2, .int .i64 b.2]] w fun e w' => e = .returned (.int .i64 z) ∧ Only [] w w' := by
  have RA := Lib.hid ra
  have RB := Lib.hid rb
  have HX := Lib.hid hx
  have HY := Lib.hid hy
  have HZ := Lib.hid hz
  clear ra rb hx hy hz
  have O0 := Lib.hid (Only.refl [] w)
  go_enter Try.func42, Try.ntmps42
  go_wp2_with (fail)
  refine (strightr ha RA.out _).mono ?_
  rintro e w1 ⟨rfl, o⟩
  have B0n : Blk (w.alloc (.cells #[.int .i64 a.1.1, .int .i64 a.1.2, .int .i64 a.2] 34)) (w.heap.size) 34 #[.int .i64 a.1.1, .int .i64 a.1.2, .int .i64 a.2] := (by have h := Blk.new w 34 #[.int .i64 a.1.1, .int .i64 a.1.2, .int .i64 a.2]; simpa using h)
  have B1n : Blk ((w.alloc (.cells #[.int .i64 a.1.1, .int .i64 a.1.2, .int .i64 a.2] 34)).alloc (.cells #[.int .i64 b.1.1, .int .i64 b.1.2, .int .i64 b.2] 34)) (w.heap.size + 1) 34 #[.int .i64 b.1.1, .int .i64 b.1.2, .int .i64 b.2] := (by have h := Blk.new (w.alloc (.cells #[.int .i64 a.1.1, .int .i64 a.1.2, .int .i64 a.2] 34)) 34 #[.int .i64 b.1.1, .int .i64 b.1.2, .int .i64 b.2]; simpa using h)
  have B0x := o.blk (t := 34) (cs := #[.int .i64 a.1.1, .int .i64 a.1.2, .int .i64 a.2]) (g := w.heap.size) (by first | exact (B0n.alloc _) | exact Blk.drewN (B0n.alloc _) _ | exact Blk.drew (B0n.alloc _)) (by simp)
  have B1x := o.blk (t := 34) (cs := #[.int .i64 b.1.1, .int .i64 b.1.2, .int .i64 b.2]) (g := w.heap.size + 1) (by first | exact B1n | exact Blk.drewN B1n _ | exact Blk.drew B1n) (by simp)
  have O1x : Only [] w w1 := (by first | exact Only.trans ((O0.out.alloc _).alloc _) o (by simp) | exact Only.trans (Only.drewN ((O0.out.alloc _).alloc _) _) o (by simp) | exact Only.trans (Only.drew ((O0.out.alloc _).alloc _)) o (by simp))
  obtain ⟨B0c0, B0c1, B0c2, B0l⟩ := B0x.facts3
  obtain ⟨B1c0, B1c1, B1c2, B1l⟩ := B1x.facts3
  clear B0n B1n O0 o
  have B0 := Lib.hid B0x; have B1 := Lib.hid B1x; have O1 := Lib.hid O1x
  clear B0x B1x O1x
  go_wp2_with (fail)
  refine (strightr hb RB.out _).mono ?_
  rintro e w2 ⟨rfl, o⟩
  have B0x := o.blk (t := 34) (cs := #[.int .i64 a.1.1, .int .i64 a.1.2, .int .i64 a.2]) (g := w.heap.size) (by first | exact B0.out | exact Blk.drewN B0.out _ | exact Blk.drew B0.out) (by simp)
  have B1x := o.blk (t := 34) (cs := #[.int .i64 b.1.1, .int .i64 b.1.2, .int .i64 b.2]) (g := w.heap.size + 1) (by first | exact B1.out | exact Blk.drewN B1.out _ | exact Blk.drew B1.out) (by simp)
  have O2x : Only [] w w2 := (by first | exact Only.trans O1.out o (by simp) | exact Only.trans (Only.drewN O1.out _) o (by simp) | exact Only.trans (Only.drew O1.out) o (by simp))
  obtain ⟨B0c0, B0c1, B0c2, B0l⟩ := B0x.facts3
  obtain ⟨B1c0, B1c1, B1c2, B1l⟩ := B1x.facts3
  clear B0 B1 O1 o
  have B0 := Lib.hid B0x; have B1 := Lib.hid B1x; have O2 := Lib.hid O2x
  clear B0x B1x O2x
  go_wp2_with (fail)
  refine wp_region_facts 12 [] (fr := ?fr) (tl := ?tl) (fun i v wv => match i with
    | 0 => v = .pointer (some ⟨w.heap.size, 0, none⟩)
    | 1 => v = .agg #[.int .i64 a.1.1, .int .i64 a.1.2]
    | 2 => v = .pointer (some ⟨w.heap.size + 1, 0, none⟩)
    | 3 => v = .agg #[.int .i64 b.1.1, .int .i64 b.1.2]
    | 4 => v = .int .i64 x
    | 5 => v = .pointer (some ⟨w.heap.size, 2, none⟩)
    | 6 => v = .int .i64 a.2
    | 7 => v = .pointer (some ⟨w.heap.size + 1, 2, none⟩)
    | 8 => v = .int .i64 b.2
    | 9 => v = .int .i64 y
    | 10 => ∃ g, v = .slice (some ⟨g, 0, none⟩) 2 2 ∧ Blk wv g 3 #[.int .i64 x, .int .i64 y]
    | 11 => v = .int .i64 z
    | _ => True) (by kernel_rfl) (by kernel_rfl) (by kernel_rfl) (by kernel_rfl) (by decide) ?htl ?hfr ?stab ?steps ?done
  case htl => simp only [List.drop_succ_cons, List.drop_zero]; rfl
  case hfr => intro vals; simp only [putAll, dstAt, Act.put, List.getElem?_toArray, List.getElem?_cons_zero, List.getElem?_cons_succ, Option.bind_some, List.setIfInBounds_toArray, List.set_cons_zero, List.set_cons_succ]; rfl
  case stab =>
    intro i v wa wb h
    try dsimp only
    split <;> first | exact id | (rintro ⟨g, e, hb⟩; exact ⟨g, e, h.blk hb (by simp)⟩)
  case steps =>
    refine ⟨?_, ?_, ?_, ?_, ?_, ?_, ?_, ?_, ?_, ?_, ?_, ?_, trivial⟩
    · intro vals wr hR hp K hK
      dsimp only at hK ⊢
      clear hp
      unfold RunsOp
      go_simp
      exact hK.out _ _ ⟨_, rfl, Only.refl _ _, rfl⟩
    · intro vals wr hR hp K hK
      dsimp only at hK ⊢
      obtain ⟨p0, -⟩ := hp
      replace p0 := p0 rfl
      dsimp only at p0
      rw [p0] at hK ⊢
      clear p0
      unfold RunsOp
      have tb0 := hR.blk (Blk.drew B0.out) (by simp)
      obtain ⟨c00, c01, c02, cl0⟩ := tb0.facts3
      clear tb0
      go_simp
      exact hK.out _ _ ⟨_, rfl, Only.refl _ _, rfl⟩
    · intro vals wr hR hp K hK
      dsimp only at hK ⊢
      clear hp
      unfold RunsOp
      go_simp
      exact hK.out _ _ ⟨_, rfl, Only.refl _ _, rfl⟩
    · intro vals wr hR hp K hK
      dsimp only at hK ⊢
      obtain ⟨p2, -⟩ := hp
      replace p2 := p2 rfl
      dsimp only at p2
      rw [p2] at hK ⊢
      clear p2
      unfold RunsOp
      have tb1 := hR.blk (Blk.drew B1.out) (by simp)
      obtain ⟨c10, c11, c12, cl1⟩ := tb1.facts3
      clear tb1
      go_simp
      exact hK.out _ _ ⟨_, rfl, Only.refl _ _, rfl⟩
    · intro vals wr hR hp K hK
      dsimp only at hK ⊢
      obtain ⟨p1, p3, -⟩ := hp
      replace p1 := p1 rfl
      replace p3 := p3 rfl
      dsimp only at p1 p3
      rw [p1, p3] at hK ⊢
      clear p1 p3
      unfold RunsOp
      go_simp
      refine (cmpr a.1 b.1 ha.1 hb.1 HX.out _).mono ?_
      rintro e w2 ⟨rfl, o2⟩
      exact hK.out _ _ ⟨_, rfl, o2, rfl⟩
    · intro vals wr hR hp K hK
      dsimp only at hK ⊢
      clear hp
      unfold RunsOp
      go_simp
      exact hK.out _ _ ⟨_, rfl, Only.refl _ _, rfl⟩
    · intro vals wr hR hp K hK
      dsimp only at hK ⊢
      obtain ⟨p5, -⟩ := hp
      replace p5 := p5 rfl
      dsimp only at p5
      rw [p5] at hK ⊢
      clear p5
      unfold RunsOp
      have tb0 := hR.blk (Blk.drew B0.out) (by simp)
      obtain ⟨c00, c01, c02, cl0⟩ := tb0.facts3
      clear tb0
      go_simp
      exact hK.out _ _ ⟨_, rfl, Only.refl _ _, rfl⟩
    · intro vals wr hR hp K hK
      dsimp only at hK ⊢
      clear hp
      unfold RunsOp
      go_simp
      exact hK.out _ _ ⟨_, rfl, Only.refl _ _, rfl⟩
    · intro vals wr hR hp K hK
      dsimp only at hK ⊢
      obtain ⟨p7, -⟩ := hp
      replace p7 := p7 rfl
      dsimp only at p7
      rw [p7] at hK ⊢
      clear p7
      unfold RunsOp
      have tb1 := hR.blk (Blk.drew B1.out) (by simp)
      obtain ⟨c10, c11, c12, cl1⟩ := tb1.facts3
      clear tb1
      go_simp
      exact hK.out _ _ ⟨_, rfl, Only.refl _ _, rfl⟩
    · intro vals wr hR hp K hK
      dsimp only at hK ⊢
      obtain ⟨p6, p8, -, -⟩ := hp
      replace p6 := p6 rfl
      replace p8 := p8 rfl
      dsimp only at p6 p8
      rw [p6, p8] at hK ⊢
      clear p6 p8
      unfold RunsOp
      go_simp
      refine (compare_any _ _ _).mono ?_
      rintro e w2 ⟨rfl, rfl⟩
      rw [HY.out]
      exact hK.out _ _ ⟨_, rfl, Only.refl _ _, rfl⟩
    · intro vals wr hR hp K hK
      dsimp only at hK ⊢
      obtain ⟨p4, p9, -⟩ := hp
      replace p4 := p4 rfl
      replace p9 := p9 rfl
      dsimp only at p4 p9
      obtain p4 := p4
      obtain p9 := p9
      rw [p4, p9] at hK ⊢
      clear p4 p9
      unfold RunsOp
      go_simp
      exact hK.out _ _ ⟨_, rfl, (Only.refl [] wr).alloc _, ⟨_, rfl, Blk.new wr 3 _⟩⟩
    · intro vals wr hR hp K hK
      dsimp only at hK ⊢
      obtain ⟨p10, -, -⟩ := hp
      replace p10 := p10 rfl
      dsimp only at p10
      obtain ⟨g10, e10, hb10⟩ := p10
      rw [e10] at hK ⊢
      clear e10
      unfold RunsOp
      go_simp
      refine (or_any hb10).mono ?_
      rintro e w2 ⟨rfl, rfl⟩
      rw [HZ.out]
      exact hK.out _ _ ⟨_, rfl, Only.refl _ _, rfl⟩
  case done =>
    intro vals wd hR hF
    have f11 : vals 11 = .int .i64 z := hF 11 (by decide)
    rw [f11]
    have O9 := Lib.hid (Only.trans (O2.out.drew) hR (by simp))
    clear hF f11 hR
    go_wp2_with (fail)
    go_ret
    exact ⟨rfl, O9.out⟩

theorem stcmp_any (a b : St) (ha : a.ok) (hb : b.ok) (w : World) : Calls Try.prog 42 #[.agg #[.int .i64 a.1.1, .int .i64 a.1.2, .int .i64 a.2], .agg #[.int .i64 b.1.1, .int .i64 b.1.2, .int .i64 b.2]] w fun e w' => e = .returned (.int .i64 (stC a b)) ∧ Only [] w w' := by
  unfold stC
  by_cases ra : stR a = true
  · by_cases rb : stR b = true
    · rw [if_pos ⟨ra, rb⟩]; exact stcmp_r a b ha hb ra rb rfl rfl rfl w
    · rw [if_neg (fun h => rb h.2)]; exact stcmp_w2 a b ha hb ra (by simpa using rb) w
  · rw [if_neg (fun h => ra h.1)]; exact stcmp_w1 a b ha (by simpa using ra) w
theorem stcmpr (a b : St) (ha : a.ok) (hb : b.ok) {x : Int} (h : stC a b = x) (w : World) : Calls Try.prog 42 #[.agg #[.int .i64 a.1.1, .int .i64 a.1.2, .int .i64 a.2], .agg #[.int .i64 b.1.1, .int .i64 b.1.2, .int .i64 b.2]] w fun e w' => e = .returned (.int .i64 x) ∧ Only [] w w' := by
  have := stcmp_any a b ha hb w
  rwa [h] at this

set_option maxHeartbeats 1000000 in
theorem stless_any (a b : St) (ha : a.ok) (hb : b.ok) {x : Int} (hx : stC a b = x) (w : World) :
    Calls Try.prog 27 #[.agg #[.int .i64 a.1.1, .int .i64 a.1.2, .int .i64 a.2], .agg #[.int .i64 b.1.1, .int .i64 b.1.2, .int .i64 b.2]] w fun e w' => e = .returned (.bool (decide (x = -1))) ∧ Only [] w w' := by
  have HX := Lib.hid hx
  clear hx
  have O0 := Lib.hid (Only.refl [] w)
  go_enter Try.func27, Try.ntmps27
  go_wp2_with (fail)
  refine (stcmpr a b ha hb HX.out _).mono ?_
  rintro e w1 ⟨rfl, o⟩
  have B0n : Blk (w.alloc (.cells #[.int .i64 a.1.1, .int .i64 a.1.2, .int .i64 a.2] 34)) (w.heap.size) 34 #[.int .i64 a.1.1, .int .i64 a.1.2, .int .i64 a.2] := (by have h := Blk.new w 34 #[.int .i64 a.1.1, .int .i64 a.1.2, .int .i64 a.2]; simpa using h)
  have B1n : Blk ((w.alloc (.cells #[.int .i64 a.1.1, .int .i64 a.1.2, .int .i64 a.2] 34)).alloc (.cells #[.int .i64 b.1.1, .int .i64 b.1.2, .int .i64 b.2] 34)) (w.heap.size + 1) 34 #[.int .i64 b.1.1, .int .i64 b.1.2, .int .i64 b.2] := (by have h := Blk.new (w.alloc (.cells #[.int .i64 a.1.1, .int .i64 a.1.2, .int .i64 a.2] 34)) 34 #[.int .i64 b.1.1, .int .i64 b.1.2, .int .i64 b.2]; simpa using h)
  have B0x := o.blk (t := 34) (cs := #[.int .i64 a.1.1, .int .i64 a.1.2, .int .i64 a.2]) (g := w.heap.size) (by first | exact (B0n.alloc _) | exact Blk.drewN (B0n.alloc _) _ | exact Blk.drew (B0n.alloc _)) (by simp)
  have B1x := o.blk (t := 34) (cs := #[.int .i64 b.1.1, .int .i64 b.1.2, .int .i64 b.2]) (g := w.heap.size + 1) (by first | exact B1n | exact Blk.drewN B1n _ | exact Blk.drew B1n) (by simp)
  have O1x : Only [] w w1 := (by first | exact Only.trans ((O0.out.alloc _).alloc _) o (by simp) | exact Only.trans (Only.drewN ((O0.out.alloc _).alloc _) _) o (by simp) | exact Only.trans (Only.drew ((O0.out.alloc _).alloc _)) o (by simp))
  obtain ⟨B0c0, B0c1, B0c2, B0l⟩ := B0x.facts3
  obtain ⟨B1c0, B1c1, B1c2, B1l⟩ := B1x.facts3
  clear B0n B1n O0 o
  have B0 := Lib.hid B0x; have B1 := Lib.hid B1x; have O1 := Lib.hid O1x
  clear B0x B1x O1x
  go_wp2_with (fail)
  go_ret
  exact ⟨by first | rfl | (congr 2; simp) | simp, by first | exact O1.out | exact Only.drewN O1.out _⟩

set_option maxHeartbeats 1000000 in
theorem refst_w (s : St) (ho : s.ok) (hr : s.1.right = false) (w : World) :
    Calls Try.prog 14 #[.agg #[.int .i64 s.1.1, .int .i64 s.1.2, .int .i64 s.2]] w fun e w' => e = .returned (.bool false) ∧ Only [] w w' := by
  have HR := Lib.hid hr
  clear hr
  have O0 := Lib.hid (Only.refl [] w)
  go_enter Try.func14, Try.ntmps14
  go_wp2_with (fail)
  refine (refrightr ho.1 HR.out _).mono ?_
  rintro e w1 ⟨rfl, o⟩
  have B0n : Blk (w.alloc (.cells #[.int .i64 s.1.1, .int .i64 s.1.2, .int .i64 s.2] 26)) (w.heap.size) 26 #[.int .i64 s.1.1, .int .i64 s.1.2, .int .i64 s.2] := (by have h := Blk.new w 26 #[.int .i64 s.1.1, .int .i64 s.1.2, .int .i64 s.2]; simpa using h)
  have B0x := o.blk (t := 26) (cs := #[.int .i64 s.1.1, .int .i64 s.1.2, .int .i64 s.2]) (g := w.heap.size) (by first | exact B0n | exact Blk.drewN B0n _ | exact Blk.drew B0n) (by simp)
  have O1x : Only [] w w1 := (by first | exact Only.trans (O0.out.alloc _) o (by simp) | exact Only.trans (Only.drewN (O0.out.alloc _) _) o (by simp) | exact Only.trans (Only.drew (O0.out.alloc _)) o (by simp))
  obtain ⟨B0c0, B0c1, B0c2, B0l⟩ := B0x.facts3
  clear B0n O0 o
  have B0 := Lib.hid B0x; have O1 := Lib.hid O1x
  clear B0x O1x
  go_wp2_with (fail)
  go_ret
  exact ⟨rfl, by first | exact O1.out | exact Only.drewN O1.out _⟩

set_option maxHeartbeats 1000000 in
theorem refst_lo (s : St) (ho : s.ok) (hr : s.1.right = true) (hc : s.2 < 0) (w : World) :
    Calls Try.prog 14 #[.agg #[.int .i64 s.1.1, .int .i64 s.1.2, .int .i64 s.2]] w fun e w' => e = .returned (.bool false) ∧ Only [] w w' := by
  have HR := Lib.hid hr
  clear hr
  have h1 : decide (s.2 < 0) = true := by simpa using hc
  clear hc
  have O0 := Lib.hid (Only.refl [] w)
  go_enter Try.func14, Try.ntmps14
  go_wp2_with (fail)
  refine (refrightr ho.1 HR.out _).mono ?_
  rintro e w1 ⟨rfl, o⟩
  have B0n : Blk (w.alloc (.cells #[.int .i64 s.1.1, .int .i64 s.1.2, .int .i64 s.2] 26)) (w.heap.size) 26 #[.int .i64 s.1.1, .int .i64 s.1.2, .int .i64 s.2] := (by have h := Blk.new w 26 #[.int .i64 s.1.1, .int .i64 s.1.2, .int .i64 s.2]; simpa using h)
  have B0x := o.blk (t := 26) (cs := #[.int .i64 s.1.1, .int .i64 s.1.2, .int .i64 s.2]) (g := w.heap.size) (by first | exact B0n | exact Blk.drewN B0n _ | exact Blk.drew B0n) (by simp)
  have O1x : Only [] w w1 := (by first | exact Only.trans (O0.out.alloc _) o (by simp) | exact Only.trans (Only.drewN (O0.out.alloc _) _) o (by simp) | exact Only.trans (Only.drew (O0.out.alloc _)) o (by simp))
  obtain ⟨B0c0, B0c1, B0c2, B0l⟩ := B0x.facts3
  clear B0n O0 o
  have B0 := Lib.hid B0x; have O1 := Lib.hid O1x
  clear B0x O1x
  go_wp2_with (fail)
  go_ret
  exact ⟨rfl, by first | exact O1.out | exact Only.drewN O1.out _⟩

set_option maxHeartbeats 1000000 in
theorem refst_hi (s : St) (ho : s.ok) (hr : s.1.right = true) (hc : 0 ≤ s.2) (hd : 1099511627776 < s.2) (w : World) :
    Calls Try.prog 14 #[.agg #[.int .i64 s.1.1, .int .i64 s.1.2, .int .i64 s.2]] w fun e w' => e = .returned (.bool false) ∧ Only [] w w' := by
  have HR := Lib.hid hr
  clear hr
  have h1 : decide (s.2 < 0) = false := by simp; omega
  have h2 : decide (1099511627776 < s.2) = true := by simpa using hd
  clear hc hd
  have O0 := Lib.hid (Only.refl [] w)
  go_enter Try.func14, Try.ntmps14
  go_wp2_with (fail)
  refine (refrightr ho.1 HR.out _).mono ?_
  rintro e w1 ⟨rfl, o⟩
  have B0n : Blk (w.alloc (.cells #[.int .i64 s.1.1, .int .i64 s.1.2, .int .i64 s.2] 26)) (w.heap.size) 26 #[.int .i64 s.1.1, .int .i64 s.1.2, .int .i64 s.2] := (by have h := Blk.new w 26 #[.int .i64 s.1.1, .int .i64 s.1.2, .int .i64 s.2]; simpa using h)
  have B0x := o.blk (t := 26) (cs := #[.int .i64 s.1.1, .int .i64 s.1.2, .int .i64 s.2]) (g := w.heap.size) (by first | exact B0n | exact Blk.drewN B0n _ | exact Blk.drew B0n) (by simp)
  have O1x : Only [] w w1 := (by first | exact Only.trans (O0.out.alloc _) o (by simp) | exact Only.trans (Only.drewN (O0.out.alloc _) _) o (by simp) | exact Only.trans (Only.drew (O0.out.alloc _)) o (by simp))
  obtain ⟨B0c0, B0c1, B0c2, B0l⟩ := B0x.facts3
  clear B0n O0 o
  have B0 := Lib.hid B0x; have O1 := Lib.hid O1x
  clear B0x O1x
  go_wp2_with (fail)
  go_ret
  exact ⟨rfl, by first | exact O1.out | exact Only.drewN O1.out _⟩

set_option maxHeartbeats 1000000 in
theorem refst_y (s : St) (ho : s.ok) (hr : s.1.right = true) (hc : 0 ≤ s.2) (hd : s.2 ≤ 1099511627776) (he : s.1.2 ≠ 0) (w : World) :
    Calls Try.prog 14 #[.agg #[.int .i64 s.1.1, .int .i64 s.1.2, .int .i64 s.2]] w fun e w' => e = .returned (.bool true) ∧ Only [] w w' := by
  have HR := Lib.hid hr
  clear hr
  have h1 : decide (s.2 < 0) = false := by simp; omega
  have h2 : decide (1099511627776 < s.2) = false := by simp; omega
  clear hc hd
  have O0 := Lib.hid (Only.refl [] w)
  go_enter Try.func14, Try.ntmps14
  go_wp2_with (fail)
  refine (refrightr ho.1 HR.out _).mono ?_
  rintro e w1 ⟨rfl, o⟩
  have B0n : Blk (w.alloc (.cells #[.int .i64 s.1.1, .int .i64 s.1.2, .int .i64 s.2] 26)) (w.heap.size) 26 #[.int .i64 s.1.1, .int .i64 s.1.2, .int .i64 s.2] := (by have h := Blk.new w 26 #[.int .i64 s.1.1, .int .i64 s.1.2, .int .i64 s.2]; simpa using h)
  have B0x := o.blk (t := 26) (cs := #[.int .i64 s.1.1, .int .i64 s.1.2, .int .i64 s.2]) (g := w.heap.size) (by first | exact B0n | exact Blk.drewN B0n _ | exact Blk.drew B0n) (by simp)
  have O1x : Only [] w w1 := (by first | exact Only.trans (O0.out.alloc _) o (by simp) | exact Only.trans (Only.drewN (O0.out.alloc _) _) o (by simp) | exact Only.trans (Only.drew (O0.out.alloc _)) o (by simp))
  obtain ⟨B0c0, B0c1, B0c2, B0l⟩ := B0x.facts3
  clear B0n O0 o
  have B0 := Lib.hid B0x; have O1 := Lib.hid O1x
  clear B0x O1x
  go_wp2_with (fail)
  refine (refnever_f he _).mono ?_
  rintro e w2 ⟨rfl, o⟩
  have B0x := o.blk (t := 26) (cs := #[.int .i64 s.1.1, .int .i64 s.1.2, .int .i64 s.2]) (g := w.heap.size) (by first | exact B0.out | exact Blk.drewN B0.out _ | exact Blk.drew B0.out) (by simp)
  have O2x : Only [] w w2 := (by first | exact Only.trans O1.out o (by simp) | exact Only.trans (Only.drewN O1.out _) o (by simp) | exact Only.trans (Only.drew O1.out) o (by simp))
  obtain ⟨B0c0, B0c1, B0c2, B0l⟩ := B0x.facts3
  clear B0 O1 o
  have B0 := Lib.hid B0x; have O2 := Lib.hid O2x
  clear B0x O2x
  go_wp2_with (fail)
  go_ret
  exact ⟨rfl, by first | exact O2.out | exact Only.drewN O2.out _⟩

set_option maxHeartbeats 1000000 in
theorem refst_n (c : Int) (hc : 0 ≤ c) (hd : c ≤ 1099511627776) {x : Bool} (hx : (c == 0) = x) (w : World) :
    Calls Try.prog 14 #[.agg #[.int .i64 1, .int .i64 0, .int .i64 c]] w fun e w' => e = .returned (.bool x) ∧ Only [] w w' := by
  have h1 : decide (c < 0) = false := by simp; omega
  have h2 : decide (1099511627776 < c) = false := by simp; omega
  clear hc hd
  have O0 := Lib.hid (Only.refl [] w)
  go_enter Try.func14, Try.ntmps14
  go_wp2_with (fail)
  refine (refr_nv _).mono ?_
  rintro e w1 ⟨rfl, o⟩
  have B0n : Blk (w.alloc (.cells #[.int .i64 1, .int .i64 0, .int .i64 c] 26)) (w.heap.size) 26 #[.int .i64 1, .int .i64 0, .int .i64 c] := (by have h := Blk.new w 26 #[.int .i64 1, .int .i64 0, .int .i64 c]; simpa using h)
  have B0x := o.blk (t := 26) (cs := #[.int .i64 1, .int .i64 0, .int .i64 c]) (g := w.heap.size) (by first | exact B0n | exact Blk.drewN B0n _ | exact Blk.drew B0n) (by simp)
  have O1x : Only [] w w1 := (by first | exact Only.trans (O0.out.alloc _) o (by simp) | exact Only.trans (Only.drewN (O0.out.alloc _) _) o (by simp) | exact Only.trans (Only.drew (O0.out.alloc _)) o (by simp))
  obtain ⟨B0c0, B0c1, B0c2, B0l⟩ := B0x.facts3
  clear B0n O0 o
  have B0 := Lib.hid B0x; have O1 := Lib.hid O1x
  clear B0x O1x
  go_wp2_with (fail)
  refine (refnever_t _).mono ?_
  rintro e w2 ⟨rfl, o⟩
  have B0x := o.blk (t := 26) (cs := #[.int .i64 1, .int .i64 0, .int .i64 c]) (g := w.heap.size) (by first | exact B0.out | exact Blk.drewN B0.out _ | exact Blk.drew B0.out) (by simp)
  have O2x : Only [] w w2 := (by first | exact Only.trans O1.out o (by simp) | exact Only.trans (Only.drewN O1.out _) o (by simp) | exact Only.trans (Only.drew O1.out) o (by simp))
  obtain ⟨B0c0, B0c1, B0c2, B0l⟩ := B0x.facts3
  clear B0 O1 o
  have B0 := Lib.hid B0x; have O2 := Lib.hid O2x
  clear B0x O2x
  go_wp2_with (fail)
  go_ret
  exact ⟨rfl, by first | exact O2.out | exact Only.drewN O2.out _⟩

theorem refst_any (s : St) (ho : s.ok) (w : World) : Calls Try.prog 14 #[.agg #[.int .i64 s.1.1, .int .i64 s.1.2, .int .i64 s.2]] w fun e w' => e = .returned (.bool (stR s)) ∧ Only [] w w' := by
  unfold stR mostS
  by_cases hr : s.1.right = true
  · rw [hr]
    by_cases h1 : 0 ≤ s.2
    · rw [decide_eq_true h1]
      by_cases h2 : s.2 ≤ 1099511627776
      · rw [decide_eq_true h2]
        by_cases h4 : s.1 = (1, 0)
        · rw [decide_eq_true h4]
          obtain ⟨t, c⟩ := s
          simp only at h4 h1 h2
          subst h4
          have e : (true && true && true && (decide (c = 0) || !true)) = (c == 0) := by rw [Bool.not_true, Bool.or_false]; rfl
          simp only
          rw [e]
          exact refst_n c h1 h2 rfl w
        · rw [decide_eq_false h4]
          have h5 : s.1.2 ≠ 0 := fun h => h4 (right_end hr h)
          rw [show (true && true && true && (decide (s.2 = 0) || !false)) = true by simp]
          exact refst_y s ho hr h1 h2 h5 w
      · rw [decide_eq_false h2]; exact refst_hi s ho hr h1 (by omega) w
    · rw [decide_eq_false h1]; exact refst_lo s ho hr (by omega) w
  · have hr' : s.1.right = false := by simpa using hr
    rw [hr']; exact refst_w s ho hr' w
theorem refstr {s : St} (ho : s.ok) {x : Bool} (h : stR s = x) (w : World) : Calls Try.prog 14 #[.agg #[.int .i64 s.1.1, .int .i64 s.1.2, .int .i64 s.2]] w fun e w' => e = .returned (.bool x) ∧ Only [] w w' := by
  have := refst_any s ho w
  rwa [h] at this
theorem refstnever_any (w : World) : Calls Try.prog 28 #[] w fun e w' => e = .returned (.agg #[.int .i64 1, .int .i64 0, .int .i64 0]) ∧ Only [] w w' := by
  go_enter Try.func28, Try.ntmps28
  go_wp2_with (fail)
  exact bodyPost_ret (v := .agg #[.int .i64 1, .int .i64 0, .int .i64 0]) (by simp [results, Try.results28, go_sem]) rfl ⟨rfl, (Only.refl [] w).alloc _⟩
set_option maxHeartbeats 1000000 in
theorem refstcmp_w1 (a b : St) (ha : a.ok) (ra : stR a = false) (w : World) :
    Calls Try.prog 29 #[.agg #[.int .i64 a.1.1, .int .i64 a.1.2, .int .i64 a.2], .agg #[.int .i64 b.1.1, .int .i64 b.1.2, .int .i64 b.2]] w fun e w' => e = .returned (.int .i64 0) ∧ Only [] w w' := by
  have RA := Lib.hid ra
  clear ra
  have O0 := Lib.hid (Only.refl [] w)
  go_enter Try.func29, Try.ntmps29
  go_wp2_with (fail)
  refine (refstr ha RA.out _).mono ?_
  rintro e w1 ⟨rfl, o⟩
  have B0n : Blk (w.alloc (.cells #[.int .i64 a.1.1, .int .i64 a.1.2, .int .i64 a.2] 26)) (w.heap.size) 26 #[.int .i64 a.1.1, .int .i64 a.1.2, .int .i64 a.2] := (by have h := Blk.new w 26 #[.int .i64 a.1.1, .int .i64 a.1.2, .int .i64 a.2]; simpa using h)
  have B1n : Blk ((w.alloc (.cells #[.int .i64 a.1.1, .int .i64 a.1.2, .int .i64 a.2] 26)).alloc (.cells #[.int .i64 b.1.1, .int .i64 b.1.2, .int .i64 b.2] 26)) (w.heap.size + 1) 26 #[.int .i64 b.1.1, .int .i64 b.1.2, .int .i64 b.2] := (by have h := Blk.new (w.alloc (.cells #[.int .i64 a.1.1, .int .i64 a.1.2, .int .i64 a.2] 26)) 26 #[.int .i64 b.1.1, .int .i64 b.1.2, .int .i64 b.2]; simpa using h)
  have B0x := o.blk (t := 26) (cs := #[.int .i64 a.1.1, .int .i64 a.1.2, .int .i64 a.2]) (g := w.heap.size) (by first | exact (B0n.alloc _) | exact Blk.drewN (B0n.alloc _) _ | exact Blk.drew (B0n.alloc _)) (by simp)
  have B1x := o.blk (t := 26) (cs := #[.int .i64 b.1.1, .int .i64 b.1.2, .int .i64 b.2]) (g := w.heap.size + 1) (by first | exact B1n | exact Blk.drewN B1n _ | exact Blk.drew B1n) (by simp)
  have O1x : Only [] w w1 := (by first | exact Only.trans ((O0.out.alloc _).alloc _) o (by simp) | exact Only.trans (Only.drewN ((O0.out.alloc _).alloc _) _) o (by simp) | exact Only.trans (Only.drew ((O0.out.alloc _).alloc _)) o (by simp))
  obtain ⟨B0c0, B0c1, B0c2, B0l⟩ := B0x.facts3
  obtain ⟨B1c0, B1c1, B1c2, B1l⟩ := B1x.facts3
  clear B0n B1n O0 o
  have B0 := Lib.hid B0x; have B1 := Lib.hid B1x; have O1 := Lib.hid O1x
  clear B0x B1x O1x
  go_wp2_with (fail)
  go_ret
  exact ⟨rfl, by first | exact O1.out | exact Only.drewN O1.out _⟩

set_option maxHeartbeats 1000000 in
theorem refstcmp_w2 (a b : St) (ha : a.ok) (hb : b.ok) (ra : stR a = true) (rb : stR b = false) (w : World) :
    Calls Try.prog 29 #[.agg #[.int .i64 a.1.1, .int .i64 a.1.2, .int .i64 a.2], .agg #[.int .i64 b.1.1, .int .i64 b.1.2, .int .i64 b.2]] w fun e w' => e = .returned (.int .i64 0) ∧ Only [] w w' := by
  have RA := Lib.hid ra
  have RB := Lib.hid rb
  clear ra rb
  have O0 := Lib.hid (Only.refl [] w)
  go_enter Try.func29, Try.ntmps29
  go_wp2_with (fail)
  refine (refstr ha RA.out _).mono ?_
  rintro e w1 ⟨rfl, o⟩
  have B0n : Blk (w.alloc (.cells #[.int .i64 a.1.1, .int .i64 a.1.2, .int .i64 a.2] 26)) (w.heap.size) 26 #[.int .i64 a.1.1, .int .i64 a.1.2, .int .i64 a.2] := (by have h := Blk.new w 26 #[.int .i64 a.1.1, .int .i64 a.1.2, .int .i64 a.2]; simpa using h)
  have B1n : Blk ((w.alloc (.cells #[.int .i64 a.1.1, .int .i64 a.1.2, .int .i64 a.2] 26)).alloc (.cells #[.int .i64 b.1.1, .int .i64 b.1.2, .int .i64 b.2] 26)) (w.heap.size + 1) 26 #[.int .i64 b.1.1, .int .i64 b.1.2, .int .i64 b.2] := (by have h := Blk.new (w.alloc (.cells #[.int .i64 a.1.1, .int .i64 a.1.2, .int .i64 a.2] 26)) 26 #[.int .i64 b.1.1, .int .i64 b.1.2, .int .i64 b.2]; simpa using h)
  have B0x := o.blk (t := 26) (cs := #[.int .i64 a.1.1, .int .i64 a.1.2, .int .i64 a.2]) (g := w.heap.size) (by first | exact (B0n.alloc _) | exact Blk.drewN (B0n.alloc _) _ | exact Blk.drew (B0n.alloc _)) (by simp)
  have B1x := o.blk (t := 26) (cs := #[.int .i64 b.1.1, .int .i64 b.1.2, .int .i64 b.2]) (g := w.heap.size + 1) (by first | exact B1n | exact Blk.drewN B1n _ | exact Blk.drew B1n) (by simp)
  have O1x : Only [] w w1 := (by first | exact Only.trans ((O0.out.alloc _).alloc _) o (by simp) | exact Only.trans (Only.drewN ((O0.out.alloc _).alloc _) _) o (by simp) | exact Only.trans (Only.drew ((O0.out.alloc _).alloc _)) o (by simp))
  obtain ⟨B0c0, B0c1, B0c2, B0l⟩ := B0x.facts3
  obtain ⟨B1c0, B1c1, B1c2, B1l⟩ := B1x.facts3
  clear B0n B1n O0 o
  have B0 := Lib.hid B0x; have B1 := Lib.hid B1x; have O1 := Lib.hid O1x
  clear B0x B1x O1x
  go_wp2_with (fail)
  refine (refstr hb RB.out _).mono ?_
  rintro e w2 ⟨rfl, o⟩
  have B0x := o.blk (t := 26) (cs := #[.int .i64 a.1.1, .int .i64 a.1.2, .int .i64 a.2]) (g := w.heap.size) (by first | exact B0.out | exact Blk.drewN B0.out _ | exact Blk.drew B0.out) (by simp)
  have B1x := o.blk (t := 26) (cs := #[.int .i64 b.1.1, .int .i64 b.1.2, .int .i64 b.2]) (g := w.heap.size + 1) (by first | exact B1.out | exact Blk.drewN B1.out _ | exact Blk.drew B1.out) (by simp)
  have O2x : Only [] w w2 := (by first | exact Only.trans O1.out o (by simp) | exact Only.trans (Only.drewN O1.out _) o (by simp) | exact Only.trans (Only.drew O1.out) o (by simp))
  obtain ⟨B0c0, B0c1, B0c2, B0l⟩ := B0x.facts3
  obtain ⟨B1c0, B1c1, B1c2, B1l⟩ := B1x.facts3
  clear B0 B1 O1 o
  have B0 := Lib.hid B0x; have B1 := Lib.hid B1x; have O2 := Lib.hid O2x
  clear B0x B1x O2x
  go_wp2_with (fail)
  go_ret
  exact ⟨rfl, by first | exact O2.out | exact Only.drewN O2.out _⟩

set_option maxHeartbeats 1000000 in
theorem refstcmp_x (a b : St) (ha : a.ok) (hb : b.ok) (ra : stR a = true) (rb : stR b = true) {x : Int} (hx : cmpT a.1 b.1 = x) (h0 : x ≠ 0) (w : World) :
    Calls Try.prog 29 #[.agg #[.int .i64 a.1.1, .int .i64 a.1.2, .int .i64 a.2], .agg #[.int .i64 b.1.1, .int .i64 b.1.2, .int .i64 b.2]] w fun e w' => e = .returned (.int .i64 x) ∧ Only [] w w' := by
  have RA := Lib.hid ra
  have RB := Lib.hid rb
  have HX := Lib.hid hx
  clear ra rb hx
  have h0' : (x != 0) = true := by simpa using h0
  clear h0
  have O0 := Lib.hid (Only.refl [] w)
  go_enter Try.func29, Try.ntmps29
  go_wp2_with (fail)
  refine (refstr ha RA.out _).mono ?_
  rintro e w1 ⟨rfl, o⟩
  have B0n : Blk (w.alloc (.cells #[.int .i64 a.1.1, .int .i64 a.1.2, .int .i64 a.2] 26)) (w.heap.size) 26 #[.int .i64 a.1.1, .int .i64 a.1.2, .int .i64 a.2] := (by have h := Blk.new w 26 #[.int .i64 a.1.1, .int .i64 a.1.2, .int .i64 a.2]; simpa using h)
  have B1n : Blk ((w.alloc (.cells #[.int .i64 a.1.1, .int .i64 a.1.2, .int .i64 a.2] 26)).alloc (.cells #[.int .i64 b.1.1, .int .i64 b.1.2, .int .i64 b.2] 26)) (w.heap.size + 1) 26 #[.int .i64 b.1.1, .int .i64 b.1.2, .int .i64 b.2] := (by have h := Blk.new (w.alloc (.cells #[.int .i64 a.1.1, .int .i64 a.1.2, .int .i64 a.2] 26)) 26 #[.int .i64 b.1.1, .int .i64 b.1.2, .int .i64 b.2]; simpa using h)
  have B0x := o.blk (t := 26) (cs := #[.int .i64 a.1.1, .int .i64 a.1.2, .int .i64 a.2]) (g := w.heap.size) (by first | exact (B0n.alloc _) | exact Blk.drewN (B0n.alloc _) _ | exact Blk.drew (B0n.alloc _)) (by simp)
  have B1x := o.blk (t := 26) (cs := #[.int .i64 b.1.1, .int .i64 b.1.2, .int .i64 b.2]) (g := w.heap.size + 1) (by first | exact B1n | exact Blk.drewN B1n _ | exact Blk.drew B1n) (by simp)
  have O1x : Only [] w w1 := (by first | exact Only.trans ((O0.out.alloc _).alloc _) o (by simp) | exact Only.trans (Only.drewN ((O0.out.alloc _).alloc _) _) o (by simp) | exact Only.trans (Only.drew ((O0.out.alloc _).alloc _)) o (by simp))
  obtain ⟨B0c0, B0c1, B0c2, B0l⟩ := B0x.facts3
  obtain ⟨B1c0, B1c1, B1c2, B1l⟩ := B1x.facts3
  clear B0n B1n O0 o
  have B0 := Lib.hid B0x; have B1 := Lib.hid B1x; have O1 := Lib.hid O1x
  clear B0x B1x O1x
  go_wp2_with (fail)
  refine (refstr hb RB.out _).mono ?_
  rintro e w2 ⟨rfl, o⟩
  have B0x := o.blk (t := 26) (cs := #[.int .i64 a.1.1, .int .i64 a.1.2, .int .i64 a.2]) (g := w.heap.size) (by first | exact B0.out | exact Blk.drewN B0.out _ | exact Blk.drew B0.out) (by simp)
  have B1x := o.blk (t := 26) (cs := #[.int .i64 b.1.1, .int .i64 b.1.2, .int .i64 b.2]) (g := w.heap.size + 1) (by first | exact B1.out | exact Blk.drewN B1.out _ | exact Blk.drew B1.out) (by simp)
  have O2x : Only [] w w2 := (by first | exact Only.trans O1.out o (by simp) | exact Only.trans (Only.drewN O1.out _) o (by simp) | exact Only.trans (Only.drew O1.out) o (by simp))
  obtain ⟨B0c0, B0c1, B0c2, B0l⟩ := B0x.facts3
  obtain ⟨B1c0, B1c1, B1c2, B1l⟩ := B1x.facts3
  clear B0 B1 O1 o
  have B0 := Lib.hid B0x; have B1 := Lib.hid B1x; have O2 := Lib.hid O2x
  clear B0x B1x O2x
  go_wp2_with (fail)
  refine (refcmpr a.1 b.1 ha.1 hb.1 HX.out _).mono ?_
  rintro e w3 ⟨rfl, o⟩
  have B0x := o.blk (t := 26) (cs := #[.int .i64 a.1.1, .int .i64 a.1.2, .int .i64 a.2]) (g := w.heap.size) (by first | exact B0.out | exact Blk.drewN B0.out _ | exact Blk.drew B0.out) (by simp)
  have B1x := o.blk (t := 26) (cs := #[.int .i64 b.1.1, .int .i64 b.1.2, .int .i64 b.2]) (g := w.heap.size + 1) (by first | exact B1.out | exact Blk.drewN B1.out _ | exact Blk.drew B1.out) (by simp)
  have O3x : Only [] w w3 := (by first | exact Only.trans O2.out o (by simp) | exact Only.trans (Only.drewN O2.out _) o (by simp) | exact Only.trans (Only.drew O2.out) o (by simp))
  obtain ⟨B0c0, B0c1, B0c2, B0l⟩ := B0x.facts3
  obtain ⟨B1c0, B1c1, B1c2, B1l⟩ := B1x.facts3
  clear B0 B1 O2 o
  have B0 := Lib.hid B0x; have B1 := Lib.hid B1x; have O3 := Lib.hid O3x
  clear B0x B1x O3x
  go_wp2_with (fail)
  go_ret
  exact ⟨rfl, by first | exact O3.out | exact Only.drewN O3.out _⟩

set_option maxHeartbeats 1000000 in
theorem refstcmp_lt (a b : St) (ha : a.ok) (hb : b.ok) (ra : stR a = true) (rb : stR b = true) {x : Int} (hx : cmpT a.1 b.1 = x) (h0 : x = 0) (hc : a.2 < b.2) (w : World) :
    Calls Try.prog 29 #[.agg #[.int .i64 a.1.1, .int .i64 a.1.2, .int .i64 a.2], .agg #[.int .i64 b.1.1, .int .i64 b.1.2, .int .i64 b.2]] w fun e w' => e = .returned (.int .i64 (-1)) ∧ Only [] w w' := by
  have RA := Lib.hid ra
  have RB := Lib.hid rb
  have HX := Lib.hid hx
  clear ra rb hx
  subst h0
  have hc' : decide (a.2 < b.2) = true := by simpa using hc
  clear hc
  have O0 := Lib.hid (Only.refl [] w)
  go_enter Try.func29, Try.ntmps29
  go_wp2_with (fail)
  refine (refstr ha RA.out _).mono ?_
  rintro e w1 ⟨rfl, o⟩
  have B0n : Blk (w.alloc (.cells #[.int .i64 a.1.1, .int .i64 a.1.2, .int .i64 a.2] 26)) (w.heap.size) 26 #[.int .i64 a.1.1, .int .i64 a.1.2, .int .i64 a.2] := (by have h := Blk.new w 26 #[.int .i64 a.1.1, .int .i64 a.1.2, .int .i64 a.2]; simpa using h)
  have B1n : Blk ((w.alloc (.cells #[.int .i64 a.1.1, .int .i64 a.1.2, .int .i64 a.2] 26)).alloc (.cells #[.int .i64 b.1.1, .int .i64 b.1.2, .int .i64 b.2] 26)) (w.heap.size + 1) 26 #[.int .i64 b.1.1, .int .i64 b.1.2, .int .i64 b.2] := (by have h := Blk.new (w.alloc (.cells #[.int .i64 a.1.1, .int .i64 a.1.2, .int .i64 a.2] 26)) 26 #[.int .i64 b.1.1, .int .i64 b.1.2, .int .i64 b.2]; simpa using h)
  have B0x := o.blk (t := 26) (cs := #[.int .i64 a.1.1, .int .i64 a.1.2, .int .i64 a.2]) (g := w.heap.size) (by first | exact (B0n.alloc _) | exact Blk.drewN (B0n.alloc _) _ | exact Blk.drew (B0n.alloc _)) (by simp)
  have B1x := o.blk (t := 26) (cs := #[.int .i64 b.1.1, .int .i64 b.1.2, .int .i64 b.2]) (g := w.heap.size + 1) (by first | exact B1n | exact Blk.drewN B1n _ | exact Blk.drew B1n) (by simp)
  have O1x : Only [] w w1 := (by first | exact Only.trans ((O0.out.alloc _).alloc _) o (by simp) | exact Only.trans (Only.drewN ((O0.out.alloc _).alloc _) _) o (by simp) | exact Only.trans (Only.drew ((O0.out.alloc _).alloc _)) o (by simp))
  obtain ⟨B0c0, B0c1, B0c2, B0l⟩ := B0x.facts3
  obtain ⟨B1c0, B1c1, B1c2, B1l⟩ := B1x.facts3
  clear B0n B1n O0 o
  have B0 := Lib.hid B0x; have B1 := Lib.hid B1x; have O1 := Lib.hid O1x
  clear B0x B1x O1x
  go_wp2_with (fail)
  refine (refstr hb RB.out _).mono ?_
  rintro e w2 ⟨rfl, o⟩
  have B0x := o.blk (t := 26) (cs := #[.int .i64 a.1.1, .int .i64 a.1.2, .int .i64 a.2]) (g := w.heap.size) (by first | exact B0.out | exact Blk.drewN B0.out _ | exact Blk.drew B0.out) (by simp)
  have B1x := o.blk (t := 26) (cs := #[.int .i64 b.1.1, .int .i64 b.1.2, .int .i64 b.2]) (g := w.heap.size + 1) (by first | exact B1.out | exact Blk.drewN B1.out _ | exact Blk.drew B1.out) (by simp)
  have O2x : Only [] w w2 := (by first | exact Only.trans O1.out o (by simp) | exact Only.trans (Only.drewN O1.out _) o (by simp) | exact Only.trans (Only.drew O1.out) o (by simp))
  obtain ⟨B0c0, B0c1, B0c2, B0l⟩ := B0x.facts3
  obtain ⟨B1c0, B1c1, B1c2, B1l⟩ := B1x.facts3
  clear B0 B1 O1 o
  have B0 := Lib.hid B0x; have B1 := Lib.hid B1x; have O2 := Lib.hid O2x
  clear B0x B1x O2x
  go_wp2_with (fail)
  refine (refcmpr a.1 b.1 ha.1 hb.1 HX.out _).mono ?_
  rintro e w3 ⟨rfl, o⟩
  have B0x := o.blk (t := 26) (cs := #[.int .i64 a.1.1, .int .i64 a.1.2, .int .i64 a.2]) (g := w.heap.size) (by first | exact B0.out | exact Blk.drewN B0.out _ | exact Blk.drew B0.out) (by simp)
  have B1x := o.blk (t := 26) (cs := #[.int .i64 b.1.1, .int .i64 b.1.2, .int .i64 b.2]) (g := w.heap.size + 1) (by first | exact B1.out | exact Blk.drewN B1.out _ | exact Blk.drew B1.out) (by simp)
  have O3x : Only [] w w3 := (by first | exact Only.trans O2.out o (by simp) | exact Only.trans (Only.drewN O2.out _) o (by simp) | exact Only.trans (Only.drew O2.out) o (by simp))
  obtain ⟨B0c0, B0c1, B0c2, B0l⟩ := B0x.facts3
  obtain ⟨B1c0, B1c1, B1c2, B1l⟩ := B1x.facts3
  clear B0 B1 O2 o
  have B0 := Lib.hid B0x; have B1 := Lib.hid B1x; have O3 := Lib.hid O3x
  clear B0x B1x O3x
  go_wp2_with (fail)
  go_ret
  exact ⟨rfl, by first | exact O3.out | exact Only.drewN O3.out _⟩

set_option maxHeartbeats 1000000 in
theorem refstcmp_gt (a b : St) (ha : a.ok) (hb : b.ok) (ra : stR a = true) (rb : stR b = true) {x : Int} (hx : cmpT a.1 b.1 = x) (h0 : x = 0) (hc : b.2 < a.2) (w : World) :
    Calls Try.prog 29 #[.agg #[.int .i64 a.1.1, .int .i64 a.1.2, .int .i64 a.2], .agg #[.int .i64 b.1.1, .int .i64 b.1.2, .int .i64 b.2]] w fun e w' => e = .returned (.int .i64 1) ∧ Only [] w w' := by
  have RA := Lib.hid ra
  have RB := Lib.hid rb
  have HX := Lib.hid hx
  clear ra rb hx
  subst h0
  have hc' : decide (a.2 < b.2) = false := by simp; omega
  have hc2 : decide (b.2 < a.2) = true := by simpa using hc
  clear hc
  have O0 := Lib.hid (Only.refl [] w)
  go_enter Try.func29, Try.ntmps29
  go_wp2_with (fail)
  refine (refstr ha RA.out _).mono ?_
  rintro e w1 ⟨rfl, o⟩
  have B0n : Blk (w.alloc (.cells #[.int .i64 a.1.1, .int .i64 a.1.2, .int .i64 a.2] 26)) (w.heap.size) 26 #[.int .i64 a.1.1, .int .i64 a.1.2, .int .i64 a.2] := (by have h := Blk.new w 26 #[.int .i64 a.1.1, .int .i64 a.1.2, .int .i64 a.2]; simpa using h)
  have B1n : Blk ((w.alloc (.cells #[.int .i64 a.1.1, .int .i64 a.1.2, .int .i64 a.2] 26)).alloc (.cells #[.int .i64 b.1.1, .int .i64 b.1.2, .int .i64 b.2] 26)) (w.heap.size + 1) 26 #[.int .i64 b.1.1, .int .i64 b.1.2, .int .i64 b.2] := (by have h := Blk.new (w.alloc (.cells #[.int .i64 a.1.1, .int .i64 a.1.2, .int .i64 a.2] 26)) 26 #[.int .i64 b.1.1, .int .i64 b.1.2, .int .i64 b.2]; simpa using h)
  have B0x := o.blk (t := 26) (cs := #[.int .i64 a.1.1, .int .i64 a.1.2, .int .i64 a.2]) (g := w.heap.size) (by first | exact (B0n.alloc _) | exact Blk.drewN (B0n.alloc _) _ | exact Blk.drew (B0n.alloc _)) (by simp)
  have B1x := o.blk (t := 26) (cs := #[.int .i64 b.1.1, .int .i64 b.1.2, .int .i64 b.2]) (g := w.heap.size + 1) (by first | exact B1n | exact Blk.drewN B1n _ | exact Blk.drew B1n) (by simp)
  have O1x : Only [] w w1 := (by first | exact Only.trans ((O0.out.alloc _).alloc _) o (by simp) | exact Only.trans (Only.drewN ((O0.out.alloc _).alloc _) _) o (by simp) | exact Only.trans (Only.drew ((O0.out.alloc _).alloc _)) o (by simp))
  obtain ⟨B0c0, B0c1, B0c2, B0l⟩ := B0x.facts3
  obtain ⟨B1c0, B1c1, B1c2, B1l⟩ := B1x.facts3
  clear B0n B1n O0 o
  have B0 := Lib.hid B0x; have B1 := Lib.hid B1x; have O1 := Lib.hid O1x
  clear B0x B1x O1x
  go_wp2_with (fail)
  refine (refstr hb RB.out _).mono ?_
  rintro e w2 ⟨rfl, o⟩
  have B0x := o.blk (t := 26) (cs := #[.int .i64 a.1.1, .int .i64 a.1.2, .int .i64 a.2]) (g := w.heap.size) (by first | exact B0.out | exact Blk.drewN B0.out _ | exact Blk.drew B0.out) (by simp)
  have B1x := o.blk (t := 26) (cs := #[.int .i64 b.1.1, .int .i64 b.1.2, .int .i64 b.2]) (g := w.heap.size + 1) (by first | exact B1.out | exact Blk.drewN B1.out _ | exact Blk.drew B1.out) (by simp)
  have O2x : Only [] w w2 := (by first | exact Only.trans O1.out o (by simp) | exact Only.trans (Only.drewN O1.out _) o (by simp) | exact Only.trans (Only.drew O1.out) o (by simp))
  obtain ⟨B0c0, B0c1, B0c2, B0l⟩ := B0x.facts3
  obtain ⟨B1c0, B1c1, B1c2, B1l⟩ := B1x.facts3
  clear B0 B1 O1 o
  have B0 := Lib.hid B0x; have B1 := Lib.hid B1x; have O2 := Lib.hid O2x
  clear B0x B1x O2x
  go_wp2_with (fail)
  refine (refcmpr a.1 b.1 ha.1 hb.1 HX.out _).mono ?_
  rintro e w3 ⟨rfl, o⟩
  have B0x := o.blk (t := 26) (cs := #[.int .i64 a.1.1, .int .i64 a.1.2, .int .i64 a.2]) (g := w.heap.size) (by first | exact B0.out | exact Blk.drewN B0.out _ | exact Blk.drew B0.out) (by simp)
  have B1x := o.blk (t := 26) (cs := #[.int .i64 b.1.1, .int .i64 b.1.2, .int .i64 b.2]) (g := w.heap.size + 1) (by first | exact B1.out | exact Blk.drewN B1.out _ | exact Blk.drew B1.out) (by simp)
  have O3x : Only [] w w3 := (by first | exact Only.trans O2.out o (by simp) | exact Only.trans (Only.drewN O2.out _) o (by simp) | exact Only.trans (Only.drew O2.out) o (by simp))
  obtain ⟨B0c0, B0c1, B0c2, B0l⟩ := B0x.facts3
  obtain ⟨B1c0, B1c1, B1c2, B1l⟩ := B1x.facts3
  clear B0 B1 O2 o
  have B0 := Lib.hid B0x; have B1 := Lib.hid B1x; have O3 := Lib.hid O3x
  clear B0x B1x O3x
  go_wp2_with (fail)
  go_ret
  exact ⟨rfl, by first | exact O3.out | exact Only.drewN O3.out _⟩

set_option maxHeartbeats 1000000 in
theorem refstcmp_eq (a b : St) (ha : a.ok) (hb : b.ok) (ra : stR a = true) (rb : stR b = true) {x : Int} (hx : cmpT a.1 b.1 = x) (h0 : x = 0) (hc : a.2 = b.2) (w : World) :
    Calls Try.prog 29 #[.agg #[.int .i64 a.1.1, .int .i64 a.1.2, .int .i64 a.2], .agg #[.int .i64 b.1.1, .int .i64 b.1.2, .int .i64 b.2]] w fun e w' => e = .returned (.int .i64 0) ∧ Only [] w w' := by
  have RA := Lib.hid ra
  have RB := Lib.hid rb
  have HX := Lib.hid hx
  clear ra rb hx
  subst h0
  have hc' : decide (a.2 < b.2) = false := by simp; omega
  have hc2 : decide (b.2 < a.2) = false := by simp; omega
  clear hc
  have O0 := Lib.hid (Only.refl [] w)
  go_enter Try.func29, Try.ntmps29
  go_wp2_with (fail)
  refine (refstr ha RA.out _).mono ?_
  rintro e w1 ⟨rfl, o⟩
  have B0n : Blk (w.alloc (.cells #[.int .i64 a.1.1, .int .i64 a.1.2, .int .i64 a.2] 26)) (w.heap.size) 26 #[.int .i64 a.1.1, .int .i64 a.1.2, .int .i64 a.2] := (by have h := Blk.new w 26 #[.int .i64 a.1.1, .int .i64 a.1.2, .int .i64 a.2]; simpa using h)
  have B1n : Blk ((w.alloc (.cells #[.int .i64 a.1.1, .int .i64 a.1.2, .int .i64 a.2] 26)).alloc (.cells #[.int .i64 b.1.1, .int .i64 b.1.2, .int .i64 b.2] 26)) (w.heap.size + 1) 26 #[.int .i64 b.1.1, .int .i64 b.1.2, .int .i64 b.2] := (by have h := Blk.new (w.alloc (.cells #[.int .i64 a.1.1, .int .i64 a.1.2, .int .i64 a.2] 26)) 26 #[.int .i64 b.1.1, .int .i64 b.1.2, .int .i64 b.2]; simpa using h)
  have B0x := o.blk (t := 26) (cs := #[.int .i64 a.1.1, .int .i64 a.1.2, .int .i64 a.2]) (g := w.heap.size) (by first | exact (B0n.alloc _) | exact Blk.drewN (B0n.alloc _) _ | exact Blk.drew (B0n.alloc _)) (by simp)
  have B1x := o.blk (t := 26) (cs := #[.int .i64 b.1.1, .int .i64 b.1.2, .int .i64 b.2]) (g := w.heap.size + 1) (by first | exact B1n | exact Blk.drewN B1n _ | exact Blk.drew B1n) (by simp)
  have O1x : Only [] w w1 := (by first | exact Only.trans ((O0.out.alloc _).alloc _) o (by simp) | exact Only.trans (Only.drewN ((O0.out.alloc _).alloc _) _) o (by simp) | exact Only.trans (Only.drew ((O0.out.alloc _).alloc _)) o (by simp))
  obtain ⟨B0c0, B0c1, B0c2, B0l⟩ := B0x.facts3
  obtain ⟨B1c0, B1c1, B1c2, B1l⟩ := B1x.facts3
  clear B0n B1n O0 o
  have B0 := Lib.hid B0x; have B1 := Lib.hid B1x; have O1 := Lib.hid O1x
  clear B0x B1x O1x
  go_wp2_with (fail)
  refine (refstr hb RB.out _).mono ?_
  rintro e w2 ⟨rfl, o⟩
  have B0x := o.blk (t := 26) (cs := #[.int .i64 a.1.1, .int .i64 a.1.2, .int .i64 a.2]) (g := w.heap.size) (by first | exact B0.out | exact Blk.drewN B0.out _ | exact Blk.drew B0.out) (by simp)
  have B1x := o.blk (t := 26) (cs := #[.int .i64 b.1.1, .int .i64 b.1.2, .int .i64 b.2]) (g := w.heap.size + 1) (by first | exact B1.out | exact Blk.drewN B1.out _ | exact Blk.drew B1.out) (by simp)
  have O2x : Only [] w w2 := (by first | exact Only.trans O1.out o (by simp) | exact Only.trans (Only.drewN O1.out _) o (by simp) | exact Only.trans (Only.drew O1.out) o (by simp))
  obtain ⟨B0c0, B0c1, B0c2, B0l⟩ := B0x.facts3
  obtain ⟨B1c0, B1c1, B1c2, B1l⟩ := B1x.facts3
  clear B0 B1 O1 o
  have B0 := Lib.hid B0x; have B1 := Lib.hid B1x; have O2 := Lib.hid O2x
  clear B0x B1x O2x
  go_wp2_with (fail)
  refine (refcmpr a.1 b.1 ha.1 hb.1 HX.out _).mono ?_
  rintro e w3 ⟨rfl, o⟩
  have B0x := o.blk (t := 26) (cs := #[.int .i64 a.1.1, .int .i64 a.1.2, .int .i64 a.2]) (g := w.heap.size) (by first | exact B0.out | exact Blk.drewN B0.out _ | exact Blk.drew B0.out) (by simp)
  have B1x := o.blk (t := 26) (cs := #[.int .i64 b.1.1, .int .i64 b.1.2, .int .i64 b.2]) (g := w.heap.size + 1) (by first | exact B1.out | exact Blk.drewN B1.out _ | exact Blk.drew B1.out) (by simp)
  have O3x : Only [] w w3 := (by first | exact Only.trans O2.out o (by simp) | exact Only.trans (Only.drewN O2.out _) o (by simp) | exact Only.trans (Only.drew O2.out) o (by simp))
  obtain ⟨B0c0, B0c1, B0c2, B0l⟩ := B0x.facts3
  obtain ⟨B1c0, B1c1, B1c2, B1l⟩ := B1x.facts3
  clear B0 B1 O2 o
  have B0 := Lib.hid B0x; have B1 := Lib.hid B1x; have O3 := Lib.hid O3x
  clear B0x B1x O3x
  go_wp2_with (fail)
  go_ret
  exact ⟨rfl, by first | exact O3.out | exact Only.drewN O3.out _⟩

theorem refstcmp_any (a b : St) (ha : a.ok) (hb : b.ok) (w : World) : Calls Try.prog 29 #[.agg #[.int .i64 a.1.1, .int .i64 a.1.2, .int .i64 a.2], .agg #[.int .i64 b.1.1, .int .i64 b.1.2, .int .i64 b.2]] w fun e w' => e = .returned (.int .i64 (stC a b)) ∧ Only [] w w' := by
  unfold stC
  by_cases ra : stR a = true
  · by_cases rb : stR b = true
    · rw [if_pos ⟨ra, rb⟩]
      by_cases h0 : cmpT a.1 b.1 = 0
      · rw [if_neg (fun h => h h0)]
        unfold cmpJ
        by_cases h1 : a.2 < b.2
        · rw [if_pos h1]; exact refstcmp_lt a b ha hb ra rb rfl h0 h1 w
        · rw [if_neg h1]
          by_cases h2 : b.2 < a.2
          · rw [if_pos h2]; exact refstcmp_gt a b ha hb ra rb rfl h0 h2 w
          · rw [if_neg h2]; exact refstcmp_eq a b ha hb ra rb rfl h0 (by omega) w
      · rw [if_pos h0]; exact refstcmp_x a b ha hb ra rb rfl h0 w
    · rw [if_neg (fun h => rb h.2)]; exact refstcmp_w2 a b ha hb ra (by simpa using rb) w
  · rw [if_neg (fun h => ra h.1)]; exact refstcmp_w1 a b ha (by simpa using ra) w
theorem refstcmpr (a b : St) (ha : a.ok) (hb : b.ok) {x : Int} (h : stC a b = x) (w : World) : Calls Try.prog 29 #[.agg #[.int .i64 a.1.1, .int .i64 a.1.2, .int .i64 a.2], .agg #[.int .i64 b.1.1, .int .i64 b.1.2, .int .i64 b.2]] w fun e w' => e = .returned (.int .i64 x) ∧ Only [] w w' := by
  have := refstcmp_any a b ha hb w
  rwa [h] at this
end Go.Proofs.Ytcggeogpanackaa
