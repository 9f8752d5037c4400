/- span: Cmp, Add, Sub at every two times. -/
import Derived.Test.YtoefekgfklillaaDoorJoin
namespace Go.Proofs.YtoefekgfklillaaDoor
open Go.RowKit Go.Kx
set_option maxRecDepth 20000

/-- a time -/
abbrev Tm := Int × Int
def Tm.ok (t : Tm) : Prop := I64 t.1 ∧ I64 t.2
def Tm.v (t : Tm) : Value := .agg #[.int .i64 t.1, .int .i64 t.2]
def Tm.right (t : Tm) : Bool := rightB t.1 t.2
/-- a time and an error -/
abbrev Te := Tm × Int

def fitT (n d : Nat) : Te := if mostI < n ∨ mostI < d then ((0, 0), 2) else ((n, d), 0)
def redT (N D : Nat) : Te := fitT (N / Nat.gcd N D) (D / Nat.gcd N D)
def cmpT (a b : Tm) : Int := if a.right = true ∧ b.right = true then (if a.1 * b.2 < b.1 * a.2 then -1 else if a.1 * b.2 = b.1 * a.2 then 0 else 1) else 0
def addT (a b : Tm) : Te :=
  if a.right = true ∧ b.right = true then (if a.2 = 0 ∨ b.2 = 0 then ((1, 0), 0) else redT (a.1.toNat * b.2.toNat + b.1.toNat * a.2.toNat) (a.2.toNat * b.2.toNat)) else ((0, 0), 1)
def subT (a b : Tm) : Te :=
  if a.right = true ∧ b.right = true then (if b.2 = 0 ∨ cmpT a b < 0 then ((0, 0), 4) else if a.2 = 0 then ((1, 0), 0) else redT (a.1.toNat * b.2.toNat - b.1.toNat * a.2.toNat) (a.2.toNat * b.2.toNat)) else ((0, 0), 1)

theorem fitV_eq (n d : Nat) : fitV n d = .tuple #[.agg #[.int .i64 (fitT n d).1.1, .int .i64 (fitT n d).1.2], .int .i64 (fitT n d).2] := by
  unfold fitV fitT
  split <;> rfl
theorem redV_eq (n d : Nat) : redV n d = .tuple #[.agg #[.int .i64 (redT n d).1.1, .int .i64 (redT n d).1.2], .int .i64 (redT n d).2] := fitV_eq _ _

/-- the parts of a right time -/
theorem right_parts {t : Tm} (ho : t.ok) (h : t.right = true) (h0 : t.2 ≠ 0) : ∃ n d : Nat, t = ((n : Int), (d : Int)) ∧ n ≤ 9223372036854775807 ∧ d ≤ 9223372036854775807 ∧ 0 < d ∧ Nat.gcd n d = 1 := by
  obtain ⟨a, b⟩ := t
  unfold Tm.ok I64 at ho
  unfold Tm.right rightB at h
  simp only at *
  rw [if_neg h0] at h
  simp at h
  obtain ⟨n, rfl⟩ := Int.eq_ofNat_of_zero_le h.1.2
  obtain ⟨d, rfl⟩ := Int.eq_ofNat_of_zero_le (Int.le_of_lt h.1.1)
  simp at h
  exact ⟨n, d, rfl, by omega, by omega, by omega, h.2⟩
theorem right_end {t : Tm} (h : t.right = true) (h0 : t.2 = 0) : t = (1, 0) := by
  obtain ⟨a, b⟩ := t
  unfold Tm.right rightB at h
  simp only at *
  rw [if_pos h0] at h
  simp at h
  rw [h, h0]

theorem cmp_any (a b : Tm) (ha : a.ok) (hb : b.ok) (w : World) :
    Calls Tryd.prog 25 #[.agg #[.int .i64 a.1, .int .i64 a.2], .agg #[.int .i64 b.1, .int .i64 b.2]] w fun e w' => e = .returned (.int .i64 (cmpT a b)) ∧ Only [] w w' := by
  by_cases h : a.right = true ∧ b.right = true
  · unfold cmpT
    rw [if_pos h]
    obtain ⟨n1, n2⟩ := right_nonneg h.1
    obtain ⟨n3, n4⟩ := right_nonneg h.2
    obtain ⟨⟨a1, a2⟩, ⟨a3, a4⟩⟩ := ha
    obtain ⟨⟨b1, b2⟩, ⟨b3, b4⟩⟩ := hb
    obtain ⟨a, a'⟩ := a
    obtain ⟨b, b'⟩ := b
    simp only at *
    obtain ⟨a, rfl⟩ := Int.eq_ofNat_of_zero_le n1
    obtain ⟨a', rfl⟩ := Int.eq_ofNat_of_zero_le n2
    obtain ⟨b, rfl⟩ := Int.eq_ofNat_of_zero_le n3
    obtain ⟨b', rfl⟩ := Int.eq_ofNat_of_zero_le n4
    have c := cmp_right a a' b b' (by omega) (by omega) (by omega) (by omega) h.1 h.2 w
    have e : (if (a : Int) * b' < (b : Int) * a' then (-1 : Int) else if (a : Int) * b' = (b : Int) * a' then 0 else 1) = (if a * b' < b * a' then (-1 : Int) else if a * b' = b * a' then 0 else 1) := by
      have e1 : ((a : Int) * b' < (b : Int) * a') = (a * b' < b * a') := by apply propext; rw [← Int.natCast_mul, ← Int.natCast_mul]; omega
      have e2 : ((a : Int) * b' = (b : Int) * a') = (a * b' = b * a') := by apply propext; rw [← Int.natCast_mul, ← Int.natCast_mul]; omega
      simp only [e1, e2]
    rw [e]
    exact c
  · unfold cmpT
    rw [if_neg h]
    exact cmp_wrong a.1 a.2 b.1 b.2 ha.1 ha.2 hb.1 hb.2 h w

/-- three boxes of two cells -/
def Three (w : World) (n : Nat) (a b c d e f : Value) : Prop := Blk w n 23 #[a, b] ∧ Blk w (n + 1) 23 #[c, d] ∧ Blk w (n + 2) 23 #[e, f]
theorem Three.new (w : World) (a b c d e f : Value) : Three (((w.alloc (.cells #[a, b] 23)).alloc (.cells #[c, d] 23)).alloc (.cells #[e, f] 23)) w.heap.size a b c d e f := three_boxes w 23 #[a, b] #[c, d] #[e, f]
theorem Three.only {w w' : World} {n : Nat} {a b c d e f : Value} (h : Three w n a b c d e f) (ho : Only [] w w') : Three w' n a b c d e f := ⟨ho.blk h.1 (by simp), ho.blk h.2.1 (by simp), ho.blk h.2.2 (by simp)⟩
theorem Three.facts {w : World} {n : Nat} {a b c d e f : Value} (h : Three w n a b c d e f) :
    w.cell? ⟨n, 0, none⟩ = some a ∧ w.cell? ⟨n, 1, none⟩ = some b ∧ w.cell? ⟨n + 1, 0, none⟩ = some c ∧ w.cell? ⟨n + 1, 1, none⟩ = some d ∧ w.cell? ⟨n + 2, 0, none⟩ = some e ∧ w.cell? ⟨n + 2, 1, none⟩ = some f ∧
      w.frozen? ⟨n + 2, 0, none⟩ = false ∧ w.frozen? ⟨n + 2, 1, none⟩ = false := by
  obtain ⟨h1, h2, h3⟩ := h
  exact ⟨by simpa using h1.cell 0, by simpa using h1.cell 1, by simpa using h2.cell 0, by simpa using h2.cell 1, by simpa using h3.cell 0, by simpa using h3.cell 1, h3.frozen 0, h3.frozen 1⟩
theorem only3 (w : World) (a b c : Obj) : Only [] w (((w.alloc a).alloc b).alloc c) := (((Only.refl [] w).alloc _).alloc _).alloc _
theorem only_two {w w' : World} (h : Only [] w w') {p q : Addr} (hp : w.heap.size ≤ p.block) (hq : w.heap.size ≤ q.block) (u v : Value) : Only [] w ((w'.setCell p u).setCell q v) := (h.setCell (.inr hp) u).setCell (.inr hq) v

theorem i0 : I64 0 := by unfold I64; omega

set_option maxHeartbeats 1000000 in
theorem add_w1 (a b c d : Int) (ia : I64 a) (ib : I64 b) (_ : I64 c) (_ : I64 d) (h1 : rightB a b = false) (w : World) :
    Calls Tryd.prog 30 #[.agg #[.int .i64 a, .int .i64 b], .agg #[.int .i64 c, .int .i64 d]] w fun e w' => e = .returned (.tuple #[.agg #[.int .i64 0, .int .i64 0], .int .i64 1]) ∧ Only [] w w' := by
  have T0 := Lib.hid (Three.new w (.int .i64 a) (.int .i64 b) (.int .i64 c) (.int .i64 d) (.int .i64 0) (.int .i64 0))
  have O0 := Lib.hid (only3 w (.cells #[.int .i64 a, .int .i64 b] 23) (.cells #[.int .i64 c, .int .i64 d] 23) (.cells #[.int .i64 0, .int .i64 0] 23))
  go_enter Tryd.func30, Tryd.ntmps30
  go_wp2_with (fail)
  refine (right_f ia ib h1 _).mono ?_
  rintro e w1 ⟨rfl, o⟩
  have t1 := T0.out.only o
  have oo1 := O0.out.trans o (by simp)
  obtain ⟨c0, c1, c2, c3, c4, c5, c6, c7⟩ := t1.facts
  have T1 := Lib.hid t1
  have O1 := Lib.hid oo1
  clear o t1 oo1
  go_wp2_with (fail)
  exact bodyPost_ret (v := .tuple #[.agg #[.int .i64 0, .int .i64 0], .int .i64 1]) (by simp [results, Tryd.results30, go_sem, c4, c5]) rfl ⟨rfl, only_two O1.out (by simp; omega) (by simp; omega) _ _⟩

set_option maxHeartbeats 1000000 in
theorem add_w2 (a b c d : Int) (ia : I64 a) (ib : I64 b) (ic : I64 c) (id_ : I64 d) (h1 : rightB a b = true) (h2 : rightB c d = false) (w : World) :
    Calls Tryd.prog 30 #[.agg #[.int .i64 a, .int .i64 b], .agg #[.int .i64 c, .int .i64 d]] w fun e w' => e = .returned (.tuple #[.agg #[.int .i64 0, .int .i64 0], .int .i64 1]) ∧ Only [] w w' := by
  have T0 := Lib.hid (Three.new w (.int .i64 a) (.int .i64 b) (.int .i64 c) (.int .i64 d) (.int .i64 0) (.int .i64 0))
  have O0 := Lib.hid (only3 w (.cells #[.int .i64 a, .int .i64 b] 23) (.cells #[.int .i64 c, .int .i64 d] 23) (.cells #[.int .i64 0, .int .i64 0] 23))
  go_enter Tryd.func30, Tryd.ntmps30
  go_wp2_with (fail)
  refine (right_t ia ib h1 _).mono ?_
  rintro e w1 ⟨rfl, o⟩
  have t1 := T0.out.only o
  have oo1 := O0.out.trans o (by simp)
  obtain ⟨c0, c1, c2, c3, c4, c5, c6, c7⟩ := t1.facts
  have T1 := Lib.hid t1
  have O1 := Lib.hid oo1
  clear o t1 oo1
  go_wp2_with (fail)
  refine (right_f ic id_ h2 _).mono ?_
  rintro e w2 ⟨rfl, o⟩
  have t2 := T1.out.only o
  have oo2 := O1.out.trans o (by simp)
  obtain ⟨c0, c1, c2, c3, c4, c5, c6, c7⟩ := t2.facts
  have T2 := Lib.hid t2
  have O2 := Lib.hid oo2
  clear o t2 oo2
  go_wp2_with (fail)
  exact bodyPost_ret (v := .tuple #[.agg #[.int .i64 0, .int .i64 0], .int .i64 1]) (by simp [results, Tryd.results30, go_sem, c4, c5]) rfl ⟨rfl, only_two O2.out (by simp; omega) (by simp; omega) _ _⟩

set_option maxHeartbeats 1000000 in
theorem add_n1 (a c d : Int) (ia : I64 a)  (ic : I64 c) (id_ : I64 d) (h1 : rightB a 0 = true) (h2 : rightB c d = true) (w : World) :
    Calls Tryd.prog 30 #[.agg #[.int .i64 a, .int .i64 0], .agg #[.int .i64 c, .int .i64 d]] w fun e w' => e = .returned (.tuple #[.agg #[.int .i64 1, .int .i64 0], .int .i64 0]) ∧ Only [] w w' := by
  have T0 := Lib.hid (Three.new w (.int .i64 a) (.int .i64 0) (.int .i64 c) (.int .i64 d) (.int .i64 0) (.int .i64 0))
  have O0 := Lib.hid (only3 w (.cells #[.int .i64 a, .int .i64 0] 23) (.cells #[.int .i64 c, .int .i64 d] 23) (.cells #[.int .i64 0, .int .i64 0] 23))
  go_enter Tryd.func30, Tryd.ntmps30
  go_wp2_with (fail)
  refine (right_t ia i0 h1 _).mono ?_
  rintro e w1 ⟨rfl, o⟩
  have t1 := T0.out.only o
  have oo1 := O0.out.trans o (by simp)
  obtain ⟨c0, c1, c2, c3, c4, c5, c6, c7⟩ := t1.facts
  have T1 := Lib.hid t1
  have O1 := Lib.hid oo1
  clear o t1 oo1
  go_wp2_with (fail)
  refine (right_t ic id_ h2 _).mono ?_
  rintro e w2 ⟨rfl, o⟩
  have t2 := T1.out.only o
  have oo2 := O1.out.trans o (by simp)
  obtain ⟨c0, c1, c2, c3, c4, c5, c6, c7⟩ := t2.facts
  have T2 := Lib.hid t2
  have O2 := Lib.hid oo2
  clear o t2 oo2
  go_wp2_with (fail)
  refine (never_any _).mono ?_
  rintro e w3 ⟨rfl, o⟩
  have t3 := T2.out.only o
  have oo3 := O2.out.trans o (by simp)
  obtain ⟨c0, c1, c2, c3, c4, c5, c6, c7⟩ := t3.facts
  have T3 := Lib.hid t3
  have O3 := Lib.hid oo3
  clear o t3 oo3
  go_wp2_with (fail)
  exact bodyPost_ret (v := .tuple #[.agg #[.int .i64 1, .int .i64 0], .int .i64 0]) (by simp [results, Tryd.results30, go_sem, c4, c5]) rfl ⟨rfl, only_two O3.out (by simp; omega) (by simp; omega) _ _⟩

set_option maxHeartbeats 1000000 in
theorem add_n2 (a b c : Int) (ia : I64 a) (ib : I64 b) (ic : I64 c)  (h1 : rightB a b = true) (h2 : rightB c 0 = true) (b0 : b ≠ 0) (w : World) :
    Calls Tryd.prog 30 #[.agg #[.int .i64 a, .int .i64 b], .agg #[.int .i64 c, .int .i64 0]] w fun e w' => e = .returned (.tuple #[.agg #[.int .i64 1, .int .i64 0], .int .i64 0]) ∧ Only [] w w' := by
  have hb0 : (b == 0) = false := by simpa using b0
  clear b0
  have T0 := Lib.hid (Three.new w (.int .i64 a) (.int .i64 b) (.int .i64 c) (.int .i64 0) (.int .i64 0) (.int .i64 0))
  have O0 := Lib.hid (only3 w (.cells #[.int .i64 a, .int .i64 b] 23) (.cells #[.int .i64 c, .int .i64 0] 23) (.cells #[.int .i64 0, .int .i64 0] 23))
  go_enter Tryd.func30, Tryd.ntmps30
  go_wp2_with (fail)
  refine (right_t ia ib h1 _).mono ?_
  rintro e w1 ⟨rfl, o⟩
  have t1 := T0.out.only o
  have oo1 := O0.out.trans o (by simp)
  obtain ⟨c0, c1, c2, c3, c4, c5, c6, c7⟩ := t1.facts
  have T1 := Lib.hid t1
  have O1 := Lib.hid oo1
  clear o t1 oo1
  go_wp2_with (fail)
  refine (right_t ic i0 h2 _).mono ?_
  rintro e w2 ⟨rfl, o⟩
  have t2 := T1.out.only o
  have oo2 := O1.out.trans o (by simp)
  obtain ⟨c0, c1, c2, c3, c4, c5, c6, c7⟩ := t2.facts
  have T2 := Lib.hid t2
  have O2 := Lib.hid oo2
  clear o t2 oo2
  go_wp2_with (fail)
  refine (never_any _).mono ?_
  rintro e w3 ⟨rfl, o⟩
  have t3 := T2.out.only o
  have oo3 := O2.out.trans o (by simp)
  obtain ⟨c0, c1, c2, c3, c4, c5, c6, c7⟩ := t3.facts
  have T3 := Lib.hid t3
  have O3 := Lib.hid oo3
  clear o t3 oo3
  go_wp2_with (fail)
  exact bodyPost_ret (v := .tuple #[.agg #[.int .i64 1, .int .i64 0], .int .i64 0]) (by simp [results, Tryd.results30, go_sem, c4, c5]) rfl ⟨rfl, only_two O3.out (by simp; omega) (by simp; omega) _ _⟩

set_option maxHeartbeats 1000000 in
theorem add_j (a b c d : Int) (ia : I64 a) (ib : I64 b) (ic : I64 c) (id_ : I64 d) {x y z : Int} (h1 : rightB a b = true) (h2 : rightB c d = true) (b0 : b ≠ 0) (d0 : d ≠ 0) (hj : ∀ W, Calls Tryd.prog 43 #[.agg #[.int .i64 a, .int .i64 b], .agg #[.int .i64 c, .int .i64 d], .bool false] W fun e w' => e = .returned (.tuple #[.agg #[.int .i64 x, .int .i64 y], .int .i64 z]) ∧ Only [] W w') (w : World) :
    Calls Tryd.prog 30 #[.agg #[.int .i64 a, .int .i64 b], .agg #[.int .i64 c, .int .i64 d]] w fun e w' => e = .returned (.tuple #[.agg #[.int .i64 x, .int .i64 y], .int .i64 z]) ∧ Only [] w w' := by
  have hb0 : (b == 0) = false := by simpa using b0
  have hd0 : (d == 0) = false := by simpa using d0
  have HJ := Lib.hid hj
  clear b0 d0 hj
  have T0 := Lib.hid (Three.new w (.int .i64 a) (.int .i64 b) (.int .i64 c) (.int .i64 d) (.int .i64 0) (.int .i64 0))
  have O0 := Lib.hid (only3 w (.cells #[.int .i64 a, .int .i64 b] 23) (.cells #[.int .i64 c, .int .i64 d] 23) (.cells #[.int .i64 0, .int .i64 0] 23))
  go_enter Tryd.func30, Tryd.ntmps30
  go_wp2_with (fail)
  refine (right_t ia ib h1 _).mono ?_
  rintro e w1 ⟨rfl, o⟩
  have t1 := T0.out.only o
  have oo1 := O0.out.trans o (by simp)
  obtain ⟨c0, c1, c2, c3, c4, c5, c6, c7⟩ := t1.facts
  have T1 := Lib.hid t1
  have O1 := Lib.hid oo1
  clear o t1 oo1
  go_wp2_with (fail)
  refine (right_t ic id_ h2 _).mono ?_
  rintro e w2 ⟨rfl, o⟩
  have t2 := T1.out.only o
  have oo2 := O1.out.trans o (by simp)
  obtain ⟨c0, c1, c2, c3, c4, c5, c6, c7⟩ := t2.facts
  have T2 := Lib.hid t2
  have O2 := Lib.hid oo2
  clear o t2 oo2
  go_wp2_with (fail)
  refine (HJ.out _).mono ?_
  rintro e w3 ⟨rfl, o⟩
  have t3 := T2.out.only o
  have oo3 := O2.out.trans o (by simp)
  obtain ⟨c0, c1, c2, c3, c4, c5, c6, c7⟩ := t3.facts
  have T3 := Lib.hid t3
  have O3 := Lib.hid oo3
  clear o t3 oo3
  go_wp2_with (fail)
  exact bodyPost_ret (v := .tuple #[.agg #[.int .i64 x, .int .i64 y], .int .i64 z]) (by simp [results, Tryd.results30, go_sem, c4, c5]) rfl ⟨rfl, only_two O3.out (by simp; omega) (by simp; omega) _ _⟩

theorem add_any (a b : Tm) (ha : a.ok) (hb : b.ok) (w : World) :
    Calls Tryd.prog 30 #[.agg #[.int .i64 a.1, .int .i64 a.2], .agg #[.int .i64 b.1, .int .i64 b.2]] w fun e w' => e = .returned (.tuple #[.agg #[.int .i64 (addT a b).1.1, .int .i64 (addT a b).1.2], .int .i64 (addT a b).2]) ∧ Only [] w w' := by
  by_cases h1 : a.right = true
  · by_cases h2 : b.right = true
    · by_cases b0 : a.2 = 0
      · have e : addT a b = ((1, 0), 0) := by unfold addT; rw [if_pos ⟨h1, h2⟩, if_pos (.inl b0)]
        rw [e]
        obtain ⟨x, y⟩ := a
        obtain rfl : y = 0 := b0
        exact add_n1 _ _ _ ha.1 hb.1 hb.2 h1 h2 w
      · by_cases d0 : b.2 = 0
        · have e : addT a b = ((1, 0), 0) := by unfold addT; rw [if_pos ⟨h1, h2⟩, if_pos (.inr d0)]
          rw [e]
          obtain ⟨x, y⟩ := b
          obtain rfl : y = 0 := d0
          exact add_n2 _ _ _ ha.1 ha.2 hb.1 h1 h2 b0 w
        · have e : addT a b = redT (a.1.toNat * b.2.toNat + b.1.toNat * a.2.toNat) (a.2.toNat * b.2.toNat) := by unfold addT; rw [if_pos ⟨h1, h2⟩, if_neg (by rintro (h | h) <;> contradiction)]
          rw [e]
          refine add_j _ _ _ _ ha.1 ha.2 hb.1 hb.2 h1 h2 b0 d0 (fun W => ?_) w
          rw [← redV_eq]
          obtain ⟨n, m, rfl, l1, l2, l3, l4⟩ := right_parts ha h1 b0
          obtain ⟨n', m', rfl, l5, l6, l7, l8⟩ := right_parts hb h2 d0
          exact join_add n m n' m' l1 l2 l5 l6 l3 l7 l4 l8 W
    · have e : addT a b = ((0, 0), 1) := by unfold addT; rw [if_neg (fun h => h2 h.2)]
      rw [e]
      exact add_w2 _ _ _ _ ha.1 ha.2 hb.1 hb.2 h1 (by simpa [Tm.right] using h2) w
  · have e : addT a b = ((0, 0), 1) := by unfold addT; rw [if_neg (fun h => h1 h.1)]
    rw [e]
    exact add_w1 _ _ _ _ ha.1 ha.2 hb.1 hb.2 (by simpa [Tm.right] using h1) w

end Go.Proofs.YtoefekgfklillaaDoor
