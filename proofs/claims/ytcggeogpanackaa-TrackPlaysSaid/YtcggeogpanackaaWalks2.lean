/- span: Whole, Cmp, walked. -/
import Derived.Test.YtcggeogpanackaaWalks
namespace Go.Proofs.Ytcggeogpanackaa
open Go.RowKit Go.Kx
set_option maxRecDepth 20000

/-- an int -/
def I64 (n : Int) : Prop := -9223372036854775808 ≤ n ∧ n ≤ 9223372036854775807

theorem two_boxes (w : World) (t : TypeId) (a b : Array Value) :
    Blk ((w.alloc (.cells a t)).alloc (.cells b t)) w.heap.size t a ∧ Blk ((w.alloc (.cells a t)).alloc (.cells b t)) (w.heap.size + 1) t b := by
  refine ⟨(Blk.new w t a).alloc _, ?_⟩
  have := Blk.new (w.alloc (.cells a t)) t b
  simpa using this
theorem three_boxes (w : World) (t : TypeId) (a b c : Array Value) :
    Blk (((w.alloc (.cells a t)).alloc (.cells b t)).alloc (.cells c t)) w.heap.size t a ∧ Blk (((w.alloc (.cells a t)).alloc (.cells b t)).alloc (.cells c t)) (w.heap.size + 1) t b ∧
      Blk (((w.alloc (.cells a t)).alloc (.cells b t)).alloc (.cells c t)) (w.heap.size + 2) t c := by
  refine ⟨(two_boxes w t a b).1.alloc _, (two_boxes w t a b).2.alloc _, ?_⟩
  have := Blk.new ((w.alloc (.cells a t)).alloc (.cells b t)) t c
  simpa using this

theorem right_t {n d : Int} (h1 : I64 n) (h2 : I64 d) (h : rightB n d = true) (w : World) :
    Calls Try.prog 40 #[.agg #[.int .i64 n, .int .i64 d]] w fun e w' => e = .returned (.bool true) ∧ Only [] w w' := by
  have := right_any n d h1 h2 w
  rwa [h] at this
theorem right_f {n d : Int} (h1 : I64 n) (h2 : I64 d) (h : rightB n d = false) (w : World) :
    Calls Try.prog 40 #[.agg #[.int .i64 n, .int .i64 d]] w fun e w' => e = .returned (.bool false) ∧ Only [] w w' := by
  have := right_any n d h1 h2 w
  rwa [h] at this

/-- makeV is a pair of a time and an error -/
theorem makeV_parts (n d : Int) : ∃ a b e : Int, makeV n d = .tuple #[.agg #[.int .i64 a, .int .i64 b], .int .i64 e] := by
  unfold makeV
  split
  · exact ⟨_, _, _, rfl⟩
  · split
    · exact ⟨_, _, _, rfl⟩
    · split <;> exact ⟨_, _, _, rfl⟩

/-- the order of two right times -/
def cmpI (a b c d : Int) : Int := if a * d < c * b then -1 else if a * d = c * b then 0 else 1

theorem cmp_wrong (a b c d : Int) (ha : I64 a) (hb : I64 b) (hc : I64 c) (hd : I64 d) (h : ¬ (rightB a b = true ∧ rightB c d = true)) (w : World) :
    Calls Try.prog 53 #[.agg #[.int .i64 a, .int .i64 b], .agg #[.int .i64 c, .int .i64 d]] w fun e w' => e = .returned (.int .i64 0) ∧ Only [] w w' := by
  by_cases h1 : rightB a b = true
  · have h2 : rightB c d = false := by simpa [h1] using h
    go_enter Try.func53, Try.ntmps53

    go_wp2_with (go_at_call 40; refine (right_any _ _ (by assumption) (by assumption) _).mono ?_; rintro e w1 ⟨rfl, ho⟩; first | (have p := ho.blk (two_boxes w 24 _ _).1 (by simp); have pc0 := p.cell 0; have pf0 := p.frozen 0; have pc1 := p.cell 1; have pf1 := p.frozen 1; simp at pc0 pc1; have q := ho.blk (two_boxes w 24 _ _).2 (by simp); have qc0 := q.cell 0; have qf0 := q.frozen 0; have qc1 := q.cell 1; have qf1 := q.frozen 1; simp at qc0 qc1; have o1 := Only.trans (((Only.refl [] w).alloc _).alloc _) ho (by simp); clear ho) | skip)
    go_ret
    exact ⟨rfl, Only.trans o1 ho (by simp)⟩
  · have h1 : rightB a b = false := by simpa using h1
    go_enter Try.func53, Try.ntmps53
    go_wp2_with (go_at_call 40; refine (right_any _ _ (by assumption) (by assumption) _).mono ?_; rintro e w1 ⟨rfl, ho⟩)
    go_ret
    exact ⟨rfl, Only.trans (((Only.refl [] w).alloc _).alloc _) ho (by simp)⟩

/-- two words hold a product: the words stand as the products do -/
theorem words_lt {x y : Nat} : (x / 18446744073709551616 < y / 18446744073709551616 ∨ x / 18446744073709551616 = y / 18446744073709551616 ∧ x % 18446744073709551616 < y % 18446744073709551616) ↔ x < y := by omega
theorem words_eq {x y : Nat} : (x / 18446744073709551616 = y / 18446744073709551616 ∧ x % 18446744073709551616 = y % 18446744073709551616) ↔ x = y := by omega

theorem right_nonneg {n d : Int} (h : rightB n d = true) : 0 ≤ n ∧ 0 ≤ d := by
  unfold rightB at h
  split at h
  · simp at h; omega
  · simp at h; omega

/-- the product of two ints from nought on, in two words, as the walk shows it -/
theorem product_i (a b : Nat) (ha : a ≤ 9223372036854775807) (hb : b ≤ 9223372036854775807) (w : World) :
    Calls Try.prog 57 #[.int .u64 a, .int .u64 b] w fun e w' => ∃ x y : Nat, x = a * b / 18446744073709551616 ∧ y = a * b % 18446744073709551616 ∧ e = .returned (.tuple #[.int .u64 x, .int .u64 y]) ∧ w' = w :=
  (product_any a b (by omega) (by omega) w).mono fun e w' ⟨he, hw⟩ => ⟨_, _, rfl, rfl, he, hw⟩

theorem cmp_right (a b c d : Nat) (ha : a ≤ 9223372036854775807) (hb : b ≤ 9223372036854775807) (hc : c ≤ 9223372036854775807) (hd : d ≤ 9223372036854775807) (h1 : rightB a b = true) (h2 : rightB c d = true) (w : World) :
    Calls Try.prog 53 #[.agg #[.int .i64 a, .int .i64 b], .agg #[.int .i64 c, .int .i64 d]] w fun e w' => e = .returned (.int .i64 (if a * d < c * b then -1 else if a * d = c * b then 0 else 1)) ∧ Only [] w w' := by
  obtain ⟨r, hr⟩ : ∃ r : Int, r = if a * d < c * b then -1 else if a * d = c * b then 0 else 1 := ⟨_, rfl⟩
  rw [← hr]
  have HR := Lib.hid hr
  clear hr
  have i1 : I64 a := by unfold I64; omega
  have i2 : I64 b := by unfold I64; omega
  have i3 : I64 c := by unfold I64; omega
  have i4 : I64 d := by unfold I64; omega
  go_enter Try.func53, Try.ntmps53

  go_wp2_with (first | (go_at_call 40; refine (right_any _ _ (by assumption) (by assumption) _).mono ?_; rintro e w1 ⟨rfl, ho⟩; first | (have p := ho.blk (two_boxes w 24 _ _).1 (by simp); have pc0 := p.cell 0; have pf0 := p.frozen 0; have pc1 := p.cell 1; have pf1 := p.frozen 1; simp at pc0 pc1; have q := ho.blk (two_boxes w 24 _ _).2 (by simp); have qc0 := q.cell 0; have qf0 := q.frozen 0; have qc1 := q.cell 1; have qf1 := q.frozen 1; simp at qc0 qc1; have o1 := Only.trans (((Only.refl [] w).alloc _).alloc _) ho (by simp); clear ho) | (have rp := ho.blk p (by simp); have rpc0 := rp.cell 0; have rpf0 := rp.frozen 0; have rpc1 := rp.cell 1; have rpf1 := rp.frozen 1; simp at rpc0 rpc1; have rq := ho.blk q (by simp); have rqc0 := rq.cell 0; have rqf0 := rq.frozen 0; have rqc1 := rq.cell 1; have rqf1 := rq.frozen 1; simp at rqc0 rqc1; have o2 := Only.trans o1 ho (by simp); clear ho)) | (go_at_call 57; refine (product_i _ _ (by omega) (by omega) _).mono ?_; rintro e w' ⟨x1, y1, e1, e2, rfl, rfl⟩))
  all_goals
    (clear pf0 pf1 pc0 pc1 qf0 qf1 qc0 qc1 rpf0 rpf1 rpc0 rpc1 rqf0 rqf1 rqc0 rqc1
     go_ret
     refine ⟨congrArg (fun k : Int => Ending.returned (.int .i64 k)) ?_, o2⟩
     rw [HR.out]
     try simp only [beq_iff_eq, beq_eq_false_iff_ne, ne_eq] at *
     first
      | (rw [if_pos (by omega)])
      | (rw [if_neg (by omega), if_pos (by omega)])
      | (rw [if_neg (by omega), if_neg (by omega)]))

end Go.Proofs.Ytcggeogpanackaa
