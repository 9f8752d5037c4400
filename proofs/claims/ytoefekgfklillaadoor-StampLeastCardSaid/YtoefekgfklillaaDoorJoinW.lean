/- span.join, walked, its numbers handed in. -/
import Derived.Test.YtoefekgfklillaaDoorCarry
import Derived.Test.YtoefekgfklillaaDoorRed
namespace Go.Proofs.YtoefekgfklillaaDoor
open Go.RowKit Go.Kx
set_option maxRecDepth 20000

/-- what fit answers -/
def fitV (n d : Nat) : Value := if mostI < n ∨ mostI < d then .tuple #[.agg #[.int .i64 0, .int .i64 0], .int .i64 2] else .tuple #[.agg #[.int .i64 n, .int .i64 d], .int .i64 0]
theorem fitV_parts (n d : Nat) : ∃ a b e : Int, fitV n d = .tuple #[.agg #[.int .i64 a, .int .i64 b], .int .i64 e] := by
  unfold fitV
  split <;> exact ⟨_, _, _, rfl⟩


set_option maxHeartbeats 2000000 in
theorem join_add_large1 (an ad bn bd g a' b' x1 y1 x2 y2 lo hi cy c2 t1 rs k N t2 bk dh dl : Nat)
    (h1 : an ≤ 9223372036854775807) (h2 : ad ≤ 9223372036854775807) (h3 : bn ≤ 9223372036854775807) (h4 : bd ≤ 9223372036854775807)
    (hg0 : 0 < g) (lg : g ≤ 9223372036854775807) (k0 : 0 < k) (_ : k ≤ g) (lhi : hi < 18446744073709551616) (_ : N < 18446744073709551616) (_ : dl < 18446744073709551616)
    (wa : IntKind.u64.wrap ((ad : Int) / g) = a') (wb : IntKind.u64.wrap ((bd : Int) / g) = b') (wk : IntKind.u64.wrap ((bd : Int) / k) = bk)
    (v0 : ∀ W, Calls Tryd.prog 42 #[.int .u64 ad, .int .u64 bd] W fun e w' => e = .returned (.int .u64 g) ∧ ∃ n, w' = W.drewN n)
    (q1 : ∀ W, Calls Tryd.prog 40 #[.int .u64 an, .int .u64 b'] W fun e w' => e = .returned (.tuple #[.int .u64 x1, .int .u64 y1]) ∧ w' = W)
    (q2 : ∀ W, Calls Tryd.prog 40 #[.int .u64 bn, .int .u64 a'] W fun e w' => e = .returned (.tuple #[.int .u64 x2, .int .u64 y2]) ∧ w' = W)
    (s1 : ∀ W, (callFunc 52 #[.int .u64 y1, .int .u64 y2, .int .u64 0]).run Tryd.prog W = .ok (.value (.tuple #[.int .u64 lo, .int .u64 cy])) W)
    (s2 : ∀ W, (callFunc 52 #[.int .u64 x1, .int .u64 x2, .int .u64 cy]).run Tryd.prog W = .ok (.value (.tuple #[.int .u64 hi, .int .u64 c2])) W)
    (v1 : ∀ W, Calls Tryd.prog 53 #[.int .u64 ((hi : Int) % g), .int .u64 lo, .int .u64 g] W fun e w' => e = .returned (.tuple #[.int .u64 t1, .int .u64 rs]) ∧ ∃ n, w' = W.drewN n)
    (v2 : ∀ W, Calls Tryd.prog 42 #[.int .u64 rs, .int .u64 g] W fun e w' => e = .returned (.int .u64 k) ∧ ∃ n, w' = W.drewN n)
    (v3 : hi < k → ∀ W, Calls Tryd.prog 53 #[.int .u64 hi, .int .u64 lo, .int .u64 k] W fun e w' => e = .returned (.tuple #[.int .u64 N, .int .u64 t2]) ∧ ∃ n, w' = W.drewN n)
    (q3 : ∀ W, Calls Tryd.prog 40 #[.int .u64 a', .int .u64 bk] W fun e w' => e = .returned (.tuple #[.int .u64 dh, .int .u64 dl]) ∧ w' = W)
    (hk : k ≤ hi) (w : World) :
    Calls Tryd.prog 43 #[.agg #[.int .i64 an, .int .i64 ad], .agg #[.int .i64 bn, .int .i64 bd], .bool false] w fun e w' =>
      e = .returned (.tuple #[.agg #[.int .i64 0, .int .i64 0], .int .i64 2]) ∧ Only [] w w' := by
  have wan := u64_nat an (by omega)
  have wbn := u64_nat bn (by omega)
  have g0 : (g : Int) ≠ 0 := by omega
  have k00 : (k : Int) ≠ 0 := by omega
  have g00 : ((g : Int) == 0) = false := by simp; omega
  have g01 : g ≠ 0 := by omega
  have k01 : ((k : Int) == 0) = false := by simp; omega
  have k02 : k ≠ 0 := by omega
  have V3 := Lib.hid v3
  have V2 := Lib.hid v2
  have V1 := Lib.hid v1
  have Q2 := Lib.hid q2
  have Q1 := Lib.hid q1
  have V0 := Lib.hid v0
  have S1 := Lib.hid s1
  have S2 := Lib.hid s2
  have WK := Lib.hid wk
  have WA := Lib.hid wa

  have Q3 := Lib.hid q3
  clear q1 q2 q3 v0 v1 v2 v3 s1 s2 wk wa
  go_enter Tryd.func43, Tryd.ntmps43
  go_wp2_with (fail)
  go_quiet (fail)
  go_wp2_with (go_at_call 42; refine (V0.out _).mono ?_; rintro e w' ⟨rfl, n0, rfl⟩)
  obtain ⟨w3, hw3⟩ : ∃ w3, w3 = (((w.alloc (Obj.cells #[Value.int IntKind.i64 ↑an, Value.int IntKind.i64 ↑ad] 23)).alloc (Obj.cells #[Value.int IntKind.i64 ↑bn, Value.int IntKind.i64 ↑bd] 23)).alloc (Obj.cells #[Value.int IntKind.i64 0, Value.int IntKind.i64 0] 23)).drewN (nq + n0) := ⟨_, rfl⟩
  have o3 : Only [] w w3 := by rw [hw3]; exact ((((Only.refl [] w).alloc _).alloc _).alloc _).drewN _
  have p := ((three_boxes w 23 #[Value.int IntKind.i64 ↑an, Value.int IntKind.i64 ↑ad] #[Value.int IntKind.i64 ↑bn, Value.int IntKind.i64 ↑bd] #[Value.int IntKind.i64 0, Value.int IntKind.i64 0]).1.drewN (nq + n0))
  have q := ((three_boxes w 23 #[Value.int IntKind.i64 ↑an, Value.int IntKind.i64 ↑ad] #[Value.int IntKind.i64 ↑bn, Value.int IntKind.i64 ↑bd] #[Value.int IntKind.i64 0, Value.int IntKind.i64 0]).2.1.drewN (nq + n0))
  have r := ((three_boxes w 23 #[Value.int IntKind.i64 ↑an, Value.int IntKind.i64 ↑ad] #[Value.int IntKind.i64 ↑bn, Value.int IntKind.i64 ↑bd] #[Value.int IntKind.i64 0, Value.int IntKind.i64 0]).2.2.drewN (nq + n0))
  rw [← hw3] at p q r ⊢
  clear hw3 h1 h2 h3 h4
  have pc0 := p.cell 0
  have qc0 := q.cell 0
  have rc0 := r.cell 0
  have rf0 := r.frozen 0
  have rc1 := r.cell 1
  have rf1 := r.frozen 1
  simp at pc0 qc0 rc0 rc1
  have P := Lib.hid p
  have Q := Lib.hid q
  have R := Lib.hid r
  have O3 := Lib.hid o3
  clear p q r o3
  go_region_held3 (fun w' => w'.cell? ⟨w.heap.size, 0, none⟩ = some (.int .i64 an)) (first | (go_keep; done) | (go_simp; done)) (first | (go_at_call 40; refine (Q1.out _).mono ?_; rintro e w' ⟨rfl, rfl⟩))
  go_wp2_with (fail)
  have wa := WA.out
  go_region_held3 (fun w' => w'.cell? ⟨w.heap.size + 1, 0, none⟩ = some (.int .i64 bn)) (first | (go_keep; done) | (go_simp; done)) (first | (go_at_call 40; refine (Q2.out _).mono ?_; rintro e w' ⟨rfl, rfl⟩))
  have s1 := S1.out
  have s2 := S2.out
  clear wa wb
  go_wp2_with (fail)
  refine (V1.out _).mono ?_
  rintro e w' ⟨rfl, n1, rfl⟩
  go_wp2_with (fail)
  refine (V2.out _).mono ?_
  rintro e w' ⟨rfl, n2, rfl⟩
  clear s1 s2
  go_wp2_with (fail)

  exact bodyPost_ret (v := .tuple #[.agg #[.int .i64 0, .int .i64 0], .int .i64 2]) (by simp [results, Tryd.results43, go_sem, rc0, rc1]) rfl ⟨rfl, ((O3.out.drewN _).setCell (.inr (by simp; omega)) _).setCell (.inr (by simp; omega)) _⟩

set_option maxHeartbeats 2000000 in
theorem join_add_large2 (an ad bn bd g a' b' x1 y1 x2 y2 lo hi cy c2 t1 rs k N t2 bk dh dl : Nat)
    (h1 : an ≤ 9223372036854775807) (h2 : ad ≤ 9223372036854775807) (h3 : bn ≤ 9223372036854775807) (h4 : bd ≤ 9223372036854775807)
    (hg0 : 0 < g) (lg : g ≤ 9223372036854775807) (k0 : 0 < k) (_ : k ≤ g) (lhi : hi < 18446744073709551616) (_ : N < 18446744073709551616) (_ : dl < 18446744073709551616)
    (wa : IntKind.u64.wrap ((ad : Int) / g) = a') (wb : IntKind.u64.wrap ((bd : Int) / g) = b') (wk : IntKind.u64.wrap ((bd : Int) / k) = bk)
    (v0 : ∀ W, Calls Tryd.prog 42 #[.int .u64 ad, .int .u64 bd] W fun e w' => e = .returned (.int .u64 g) ∧ ∃ n, w' = W.drewN n)
    (q1 : ∀ W, Calls Tryd.prog 40 #[.int .u64 an, .int .u64 b'] W fun e w' => e = .returned (.tuple #[.int .u64 x1, .int .u64 y1]) ∧ w' = W)
    (q2 : ∀ W, Calls Tryd.prog 40 #[.int .u64 bn, .int .u64 a'] W fun e w' => e = .returned (.tuple #[.int .u64 x2, .int .u64 y2]) ∧ w' = W)
    (s1 : ∀ W, (callFunc 52 #[.int .u64 y1, .int .u64 y2, .int .u64 0]).run Tryd.prog W = .ok (.value (.tuple #[.int .u64 lo, .int .u64 cy])) W)
    (s2 : ∀ W, (callFunc 52 #[.int .u64 x1, .int .u64 x2, .int .u64 cy]).run Tryd.prog W = .ok (.value (.tuple #[.int .u64 hi, .int .u64 c2])) W)
    (v1 : ∀ W, Calls Tryd.prog 53 #[.int .u64 ((hi : Int) % g), .int .u64 lo, .int .u64 g] W fun e w' => e = .returned (.tuple #[.int .u64 t1, .int .u64 rs]) ∧ ∃ n, w' = W.drewN n)
    (v2 : ∀ W, Calls Tryd.prog 42 #[.int .u64 rs, .int .u64 g] W fun e w' => e = .returned (.int .u64 k) ∧ ∃ n, w' = W.drewN n)
    (v3 : hi < k → ∀ W, Calls Tryd.prog 53 #[.int .u64 hi, .int .u64 lo, .int .u64 k] W fun e w' => e = .returned (.tuple #[.int .u64 N, .int .u64 t2]) ∧ ∃ n, w' = W.drewN n)
    (q3 : ∀ W, Calls Tryd.prog 40 #[.int .u64 a', .int .u64 bk] W fun e w' => e = .returned (.tuple #[.int .u64 dh, .int .u64 dl]) ∧ w' = W)
    (hk : hi < k) (hd0 : dh ≠ 0) (w : World) :
    Calls Tryd.prog 43 #[.agg #[.int .i64 an, .int .i64 ad], .agg #[.int .i64 bn, .int .i64 bd], .bool false] w fun e w' =>
      e = .returned (.tuple #[.agg #[.int .i64 0, .int .i64 0], .int .i64 2]) ∧ Only [] w w' := by
  have wan := u64_nat an (by omega)
  have wbn := u64_nat bn (by omega)
  have g0 : (g : Int) ≠ 0 := by omega
  have k00 : (k : Int) ≠ 0 := by omega
  have g00 : ((g : Int) == 0) = false := by simp; omega
  have g01 : g ≠ 0 := by omega
  have k01 : ((k : Int) == 0) = false := by simp; omega
  have k02 : k ≠ 0 := by omega
  have V3 := Lib.hid v3
  have V2 := Lib.hid v2
  have V1 := Lib.hid v1
  have Q2 := Lib.hid q2
  have Q1 := Lib.hid q1
  have V0 := Lib.hid v0
  have S1 := Lib.hid s1
  have S2 := Lib.hid s2
  have WK := Lib.hid wk
  have WA := Lib.hid wa

  have hdb : (((dh : Nat) : Int) != 0) = true := by simp; omega
  clear hd0
  have Q3 := Lib.hid q3
  clear q1 q2 q3 v0 v1 v2 v3 s1 s2 wk wa
  go_enter Tryd.func43, Tryd.ntmps43
  go_wp2_with (fail)
  go_quiet (fail)
  go_wp2_with (go_at_call 42; refine (V0.out _).mono ?_; rintro e w' ⟨rfl, n0, rfl⟩)
  obtain ⟨w3, hw3⟩ : ∃ w3, w3 = (((w.alloc (Obj.cells #[Value.int IntKind.i64 ↑an, Value.int IntKind.i64 ↑ad] 23)).alloc (Obj.cells #[Value.int IntKind.i64 ↑bn, Value.int IntKind.i64 ↑bd] 23)).alloc (Obj.cells #[Value.int IntKind.i64 0, Value.int IntKind.i64 0] 23)).drewN (nq + n0) := ⟨_, rfl⟩
  have o3 : Only [] w w3 := by rw [hw3]; exact ((((Only.refl [] w).alloc _).alloc _).alloc _).drewN _
  have p := ((three_boxes w 23 #[Value.int IntKind.i64 ↑an, Value.int IntKind.i64 ↑ad] #[Value.int IntKind.i64 ↑bn, Value.int IntKind.i64 ↑bd] #[Value.int IntKind.i64 0, Value.int IntKind.i64 0]).1.drewN (nq + n0))
  have q := ((three_boxes w 23 #[Value.int IntKind.i64 ↑an, Value.int IntKind.i64 ↑ad] #[Value.int IntKind.i64 ↑bn, Value.int IntKind.i64 ↑bd] #[Value.int IntKind.i64 0, Value.int IntKind.i64 0]).2.1.drewN (nq + n0))
  have r := ((three_boxes w 23 #[Value.int IntKind.i64 ↑an, Value.int IntKind.i64 ↑ad] #[Value.int IntKind.i64 ↑bn, Value.int IntKind.i64 ↑bd] #[Value.int IntKind.i64 0, Value.int IntKind.i64 0]).2.2.drewN (nq + n0))
  rw [← hw3] at p q r ⊢
  clear hw3 h1 h2 h3 h4
  have pc0 := p.cell 0
  have qc0 := q.cell 0
  have rc0 := r.cell 0
  have rf0 := r.frozen 0
  have rc1 := r.cell 1
  have rf1 := r.frozen 1
  simp at pc0 qc0 rc0 rc1
  have P := Lib.hid p
  have Q := Lib.hid q
  have R := Lib.hid r
  have O3 := Lib.hid o3
  clear p q r o3
  go_region_held3 (fun w' => w'.cell? ⟨w.heap.size, 0, none⟩ = some (.int .i64 an)) (first | (go_keep; done) | (go_simp; done)) (first | (go_at_call 40; refine (Q1.out _).mono ?_; rintro e w' ⟨rfl, rfl⟩))
  go_wp2_with (fail)
  have wa := WA.out
  go_region_held3 (fun w' => w'.cell? ⟨w.heap.size + 1, 0, none⟩ = some (.int .i64 bn)) (first | (go_keep; done) | (go_simp; done)) (first | (go_at_call 40; refine (Q2.out _).mono ?_; rintro e w' ⟨rfl, rfl⟩))
  have s1 := S1.out
  have s2 := S2.out
  clear wa wb
  go_wp2_with (fail)
  refine (V1.out _).mono ?_
  rintro e w' ⟨rfl, n1, rfl⟩
  go_wp2_with (fail)
  refine (V2.out _).mono ?_
  rintro e w' ⟨rfl, n2, rfl⟩
  clear s1 s2
  go_wp2_with (fail)

  refine (V3.out hk _).mono ?_
  rintro e w' ⟨rfl, n3, rfl⟩
  go_wp2_with (fail)
  have wa := WA.out
  have wk := WK.out
  go_region_held3 (fun _ => True) (first | trivial | (go_keep; done)) (first | (go_at_call 40; refine (Q3.out _).mono ?_; rintro e w' ⟨rfl, rfl⟩))
  clear wa wk
  go_wp2_with (fail)
  exact bodyPost_ret (v := .tuple #[.agg #[.int .i64 0, .int .i64 0], .int .i64 2]) (by simp [results, Tryd.results43, go_sem, rc0, rc1]) rfl ⟨rfl, ((O3.out.drewN _).setCell (.inr (by simp; omega)) _).setCell (.inr (by simp; omega)) _⟩

set_option maxHeartbeats 2000000 in
theorem join_add_fits (an ad bn bd g a' b' x1 y1 x2 y2 lo hi cy c2 t1 rs k N t2 bk dh dl : Nat)
    (h1 : an ≤ 9223372036854775807) (h2 : ad ≤ 9223372036854775807) (h3 : bn ≤ 9223372036854775807) (h4 : bd ≤ 9223372036854775807)
    (hg0 : 0 < g) (lg : g ≤ 9223372036854775807) (k0 : 0 < k) (_ : k ≤ g) (lhi : hi < 18446744073709551616) (lN : N < 18446744073709551616) (ldl : dl < 18446744073709551616)
    (wa : IntKind.u64.wrap ((ad : Int) / g) = a') (wb : IntKind.u64.wrap ((bd : Int) / g) = b') (wk : IntKind.u64.wrap ((bd : Int) / k) = bk)
    (v0 : ∀ W, Calls Tryd.prog 42 #[.int .u64 ad, .int .u64 bd] W fun e w' => e = .returned (.int .u64 g) ∧ ∃ n, w' = W.drewN n)
    (q1 : ∀ W, Calls Tryd.prog 40 #[.int .u64 an, .int .u64 b'] W fun e w' => e = .returned (.tuple #[.int .u64 x1, .int .u64 y1]) ∧ w' = W)
    (q2 : ∀ W, Calls Tryd.prog 40 #[.int .u64 bn, .int .u64 a'] W fun e w' => e = .returned (.tuple #[.int .u64 x2, .int .u64 y2]) ∧ w' = W)
    (s1 : ∀ W, (callFunc 52 #[.int .u64 y1, .int .u64 y2, .int .u64 0]).run Tryd.prog W = .ok (.value (.tuple #[.int .u64 lo, .int .u64 cy])) W)
    (s2 : ∀ W, (callFunc 52 #[.int .u64 x1, .int .u64 x2, .int .u64 cy]).run Tryd.prog W = .ok (.value (.tuple #[.int .u64 hi, .int .u64 c2])) W)
    (v1 : ∀ W, Calls Tryd.prog 53 #[.int .u64 ((hi : Int) % g), .int .u64 lo, .int .u64 g] W fun e w' => e = .returned (.tuple #[.int .u64 t1, .int .u64 rs]) ∧ ∃ n, w' = W.drewN n)
    (v2 : ∀ W, Calls Tryd.prog 42 #[.int .u64 rs, .int .u64 g] W fun e w' => e = .returned (.int .u64 k) ∧ ∃ n, w' = W.drewN n)
    (v3 : hi < k → ∀ W, Calls Tryd.prog 53 #[.int .u64 hi, .int .u64 lo, .int .u64 k] W fun e w' => e = .returned (.tuple #[.int .u64 N, .int .u64 t2]) ∧ ∃ n, w' = W.drewN n)
    (q3 : ∀ W, Calls Tryd.prog 40 #[.int .u64 a', .int .u64 bk] W fun e w' => e = .returned (.tuple #[.int .u64 dh, .int .u64 dl]) ∧ w' = W)
    (hk : hi < k) (hd0 : dh = 0) (w : World) :
    Calls Tryd.prog 43 #[.agg #[.int .i64 an, .int .i64 ad], .agg #[.int .i64 bn, .int .i64 bd], .bool false] w fun e w' =>
      e = .returned (fitV N dl) ∧ Only [] w w' := by
  have wan := u64_nat an (by omega)
  have wbn := u64_nat bn (by omega)
  have g0 : (g : Int) ≠ 0 := by omega
  have k00 : (k : Int) ≠ 0 := by omega
  have g00 : ((g : Int) == 0) = false := by simp; omega
  have g01 : g ≠ 0 := by omega
  have k01 : ((k : Int) == 0) = false := by simp; omega
  have k02 : k ≠ 0 := by omega
  have V3 := Lib.hid v3
  have V2 := Lib.hid v2
  have V1 := Lib.hid v1
  have Q2 := Lib.hid q2
  have Q1 := Lib.hid q1
  have V0 := Lib.hid v0
  have S1 := Lib.hid s1
  have S2 := Lib.hid s2
  have WK := Lib.hid wk
  have WA := Lib.hid wa

  subst hd0
  simp only [Int.ofNat_zero] at q3
  obtain ⟨ra, rb, rc, hv⟩ := fitV_parts N dl
  have hf : ∀ W, Calls Tryd.prog 54 #[.int .u64 N, .int .u64 dl] W fun e w' => e = .returned (.tuple #[.agg #[.int .i64 ra, .int .i64 rb], .int .i64 rc]) ∧ Only [] W w' := fun W => by rw [← hv]; exact (fit_any N dl lN ldl W)
  rw [hv]
  clear hv
  have HF := Lib.hid hf
  clear hf
  have Q3 := Lib.hid q3
  clear q1 q2 q3 v0 v1 v2 v3 s1 s2 wk wa
  go_enter Tryd.func43, Tryd.ntmps43
  go_wp2_with (fail)
  go_quiet (fail)
  go_wp2_with (go_at_call 42; refine (V0.out _).mono ?_; rintro e w' ⟨rfl, n0, rfl⟩)
  obtain ⟨w3, hw3⟩ : ∃ w3, w3 = (((w.alloc (Obj.cells #[Value.int IntKind.i64 ↑an, Value.int IntKind.i64 ↑ad] 23)).alloc (Obj.cells #[Value.int IntKind.i64 ↑bn, Value.int IntKind.i64 ↑bd] 23)).alloc (Obj.cells #[Value.int IntKind.i64 0, Value.int IntKind.i64 0] 23)).drewN (nq + n0) := ⟨_, rfl⟩
  have o3 : Only [] w w3 := by rw [hw3]; exact ((((Only.refl [] w).alloc _).alloc _).alloc _).drewN _
  have p := ((three_boxes w 23 #[Value.int IntKind.i64 ↑an, Value.int IntKind.i64 ↑ad] #[Value.int IntKind.i64 ↑bn, Value.int IntKind.i64 ↑bd] #[Value.int IntKind.i64 0, Value.int IntKind.i64 0]).1.drewN (nq + n0))
  have q := ((three_boxes w 23 #[Value.int IntKind.i64 ↑an, Value.int IntKind.i64 ↑ad] #[Value.int IntKind.i64 ↑bn, Value.int IntKind.i64 ↑bd] #[Value.int IntKind.i64 0, Value.int IntKind.i64 0]).2.1.drewN (nq + n0))
  have r := ((three_boxes w 23 #[Value.int IntKind.i64 ↑an, Value.int IntKind.i64 ↑ad] #[Value.int IntKind.i64 ↑bn, Value.int IntKind.i64 ↑bd] #[Value.int IntKind.i64 0, Value.int IntKind.i64 0]).2.2.drewN (nq + n0))
  rw [← hw3] at p q r ⊢
  clear hw3 h1 h2 h3 h4
  have pc0 := p.cell 0
  have qc0 := q.cell 0
  have rc0 := r.cell 0
  have rf0 := r.frozen 0
  have rc1 := r.cell 1
  have rf1 := r.frozen 1
  simp at pc0 qc0 rc0 rc1
  have P := Lib.hid p
  have Q := Lib.hid q
  have R := Lib.hid r
  have O3 := Lib.hid o3
  clear p q r o3
  go_region_held3 (fun w' => w'.cell? ⟨w.heap.size, 0, none⟩ = some (.int .i64 an)) (first | (go_keep; done) | (go_simp; done)) (first | (go_at_call 40; refine (Q1.out _).mono ?_; rintro e w' ⟨rfl, rfl⟩))
  go_wp2_with (fail)
  have wa := WA.out
  go_region_held3 (fun w' => w'.cell? ⟨w.heap.size + 1, 0, none⟩ = some (.int .i64 bn)) (first | (go_keep; done) | (go_simp; done)) (first | (go_at_call 40; refine (Q2.out _).mono ?_; rintro e w' ⟨rfl, rfl⟩))
  have s1 := S1.out
  have s2 := S2.out
  clear wa wb
  go_wp2_with (fail)
  refine (V1.out _).mono ?_
  rintro e w' ⟨rfl, n1, rfl⟩
  go_wp2_with (fail)
  refine (V2.out _).mono ?_
  rintro e w' ⟨rfl, n2, rfl⟩
  clear s1 s2
  go_wp2_with (fail)

  refine (V3.out hk _).mono ?_
  rintro e w' ⟨rfl, n3, rfl⟩
  go_wp2_with (fail)
  have wa := WA.out
  have wk := WK.out
  go_region_held3 (fun _ => True) (first | trivial | (go_keep; done)) (first | (go_at_call 40; refine (Q3.out _).mono ?_; rintro e w' ⟨rfl, rfl⟩))
  clear wa wk
  go_wp2_with (fail)
  refine (HF.out _).mono ?_
  rintro e w' ⟨rfl, ho⟩
  have hb := ho.blk (R.out.drewN _) (by simp)
  have b0 := hb.cell 0
  have b1 := hb.cell 1
  have f0 := hb.frozen 0
  have f1 := hb.frozen 1
  simp at b0 b1
  have HO := Lib.hid ho
  have HB := Lib.hid hb
  clear ho hb rc0 rc1 rf0 rf1
  go_wp2_with (fail)
  have hz := O3.out.size
  exact bodyPost_ret (v := .tuple #[.agg #[.int .i64 ra, .int .i64 rb], .int .i64 rc]) (by simp [results, Tryd.results43, go_sem, b0, b1]) rfl ⟨rfl, (((O3.out.drewN _).trans HO.out (by simp)).setCell (.inr (by simp; omega)) _).setCell (.inr (by simp; omega)) _⟩

set_option maxHeartbeats 2000000 in
theorem join_sub_large1 (an ad bn bd g a' b' x1 y1 x2 y2 lo hi cy c2 t1 rs k N t2 bk dh dl : Nat)
    (h1 : an ≤ 9223372036854775807) (h2 : ad ≤ 9223372036854775807) (h3 : bn ≤ 9223372036854775807) (h4 : bd ≤ 9223372036854775807)
    (hg0 : 0 < g) (lg : g ≤ 9223372036854775807) (k0 : 0 < k) (_ : k ≤ g) (lhi : hi < 18446744073709551616) (_ : N < 18446744073709551616) (_ : dl < 18446744073709551616)
    (wa : IntKind.u64.wrap ((ad : Int) / g) = a') (wb : IntKind.u64.wrap ((bd : Int) / g) = b') (wk : IntKind.u64.wrap ((bd : Int) / k) = bk)
    (v0 : ∀ W, Calls Tryd.prog 42 #[.int .u64 ad, .int .u64 bd] W fun e w' => e = .returned (.int .u64 g) ∧ ∃ n, w' = W.drewN n)
    (q1 : ∀ W, Calls Tryd.prog 40 #[.int .u64 an, .int .u64 b'] W fun e w' => e = .returned (.tuple #[.int .u64 x1, .int .u64 y1]) ∧ w' = W)
    (q2 : ∀ W, Calls Tryd.prog 40 #[.int .u64 bn, .int .u64 a'] W fun e w' => e = .returned (.tuple #[.int .u64 x2, .int .u64 y2]) ∧ w' = W)
    (s1 : ∀ W, (callFunc 51 #[.int .u64 y1, .int .u64 y2, .int .u64 0]).run Tryd.prog W = .ok (.value (.tuple #[.int .u64 lo, .int .u64 cy])) W)
    (s2 : ∀ W, (callFunc 51 #[.int .u64 x1, .int .u64 x2, .int .u64 cy]).run Tryd.prog W = .ok (.value (.tuple #[.int .u64 hi, .int .u64 c2])) W)
    (v1 : ∀ W, Calls Tryd.prog 53 #[.int .u64 ((hi : Int) % g), .int .u64 lo, .int .u64 g] W fun e w' => e = .returned (.tuple #[.int .u64 t1, .int .u64 rs]) ∧ ∃ n, w' = W.drewN n)
    (v2 : ∀ W, Calls Tryd.prog 42 #[.int .u64 rs, .int .u64 g] W fun e w' => e = .returned (.int .u64 k) ∧ ∃ n, w' = W.drewN n)
    (v3 : hi < k → ∀ W, Calls Tryd.prog 53 #[.int .u64 hi, .int .u64 lo, .int .u64 k] W fun e w' => e = .returned (.tuple #[.int .u64 N, .int .u64 t2]) ∧ ∃ n, w' = W.drewN n)
    (q3 : ∀ W, Calls Tryd.prog 40 #[.int .u64 a', .int .u64 bk] W fun e w' => e = .returned (.tuple #[.int .u64 dh, .int .u64 dl]) ∧ w' = W)
    (hk : k ≤ hi) (w : World) :
    Calls Tryd.prog 43 #[.agg #[.int .i64 an, .int .i64 ad], .agg #[.int .i64 bn, .int .i64 bd], .bool true] w fun e w' =>
      e = .returned (.tuple #[.agg #[.int .i64 0, .int .i64 0], .int .i64 2]) ∧ Only [] w w' := by
  have wan := u64_nat an (by omega)
  have wbn := u64_nat bn (by omega)
  have g0 : (g : Int) ≠ 0 := by omega
  have k00 : (k : Int) ≠ 0 := by omega
  have g00 : ((g : Int) == 0) = false := by simp; omega
  have g01 : g ≠ 0 := by omega
  have k01 : ((k : Int) == 0) = false := by simp; omega
  have k02 : k ≠ 0 := by omega
  have V3 := Lib.hid v3
  have V2 := Lib.hid v2
  have V1 := Lib.hid v1
  have Q2 := Lib.hid q2
  have Q1 := Lib.hid q1
  have V0 := Lib.hid v0
  have S1 := Lib.hid s1
  have S2 := Lib.hid s2
  have WK := Lib.hid wk
  have WA := Lib.hid wa

  have Q3 := Lib.hid q3
  clear q1 q2 q3 v0 v1 v2 v3 s1 s2 wk wa
  go_enter Tryd.func43, Tryd.ntmps43
  go_wp2_with (fail)
  go_quiet (fail)
  go_wp2_with (go_at_call 42; refine (V0.out _).mono ?_; rintro e w' ⟨rfl, n0, rfl⟩)
  obtain ⟨w3, hw3⟩ : ∃ w3, w3 = (((w.alloc (Obj.cells #[Value.int IntKind.i64 ↑an, Value.int IntKind.i64 ↑ad] 23)).alloc (Obj.cells #[Value.int IntKind.i64 ↑bn, Value.int IntKind.i64 ↑bd] 23)).alloc (Obj.cells #[Value.int IntKind.i64 0, Value.int IntKind.i64 0] 23)).drewN (nq + n0) := ⟨_, rfl⟩
  have o3 : Only [] w w3 := by rw [hw3]; exact ((((Only.refl [] w).alloc _).alloc _).alloc _).drewN _
  have p := ((three_boxes w 23 #[Value.int IntKind.i64 ↑an, Value.int IntKind.i64 ↑ad] #[Value.int IntKind.i64 ↑bn, Value.int IntKind.i64 ↑bd] #[Value.int IntKind.i64 0, Value.int IntKind.i64 0]).1.drewN (nq + n0))
  have q := ((three_boxes w 23 #[Value.int IntKind.i64 ↑an, Value.int IntKind.i64 ↑ad] #[Value.int IntKind.i64 ↑bn, Value.int IntKind.i64 ↑bd] #[Value.int IntKind.i64 0, Value.int IntKind.i64 0]).2.1.drewN (nq + n0))
  have r := ((three_boxes w 23 #[Value.int IntKind.i64 ↑an, Value.int IntKind.i64 ↑ad] #[Value.int IntKind.i64 ↑bn, Value.int IntKind.i64 ↑bd] #[Value.int IntKind.i64 0, Value.int IntKind.i64 0]).2.2.drewN (nq + n0))
  rw [← hw3] at p q r ⊢
  clear hw3 h1 h2 h3 h4
  have pc0 := p.cell 0
  have qc0 := q.cell 0
  have rc0 := r.cell 0
  have rf0 := r.frozen 0
  have rc1 := r.cell 1
  have rf1 := r.frozen 1
  simp at pc0 qc0 rc0 rc1
  have P := Lib.hid p
  have Q := Lib.hid q
  have R := Lib.hid r
  have O3 := Lib.hid o3
  clear p q r o3
  go_region_held3 (fun w' => w'.cell? ⟨w.heap.size, 0, none⟩ = some (.int .i64 an)) (first | (go_keep; done) | (go_simp; done)) (first | (go_at_call 40; refine (Q1.out _).mono ?_; rintro e w' ⟨rfl, rfl⟩))
  go_wp2_with (fail)
  have wa := WA.out
  go_region_held3 (fun w' => w'.cell? ⟨w.heap.size + 1, 0, none⟩ = some (.int .i64 bn)) (first | (go_keep; done) | (go_simp; done)) (first | (go_at_call 40; refine (Q2.out _).mono ?_; rintro e w' ⟨rfl, rfl⟩))
  have s1 := S1.out
  have s2 := S2.out
  clear wa wb
  go_wp2_with (fail)
  refine (V1.out _).mono ?_
  rintro e w' ⟨rfl, n1, rfl⟩
  go_wp2_with (fail)
  refine (V2.out _).mono ?_
  rintro e w' ⟨rfl, n2, rfl⟩
  clear s1 s2
  go_wp2_with (fail)

  exact bodyPost_ret (v := .tuple #[.agg #[.int .i64 0, .int .i64 0], .int .i64 2]) (by simp [results, Tryd.results43, go_sem, rc0, rc1]) rfl ⟨rfl, ((O3.out.drewN _).setCell (.inr (by simp; omega)) _).setCell (.inr (by simp; omega)) _⟩

set_option maxHeartbeats 2000000 in
theorem join_sub_large2 (an ad bn bd g a' b' x1 y1 x2 y2 lo hi cy c2 t1 rs k N t2 bk dh dl : Nat)
    (h1 : an ≤ 9223372036854775807) (h2 : ad ≤ 9223372036854775807) (h3 : bn ≤ 9223372036854775807) (h4 : bd ≤ 9223372036854775807)
    (hg0 : 0 < g) (lg : g ≤ 9223372036854775807) (k0 : 0 < k) (_ : k ≤ g) (lhi : hi < 18446744073709551616) (_ : N < 18446744073709551616) (_ : dl < 18446744073709551616)
    (wa : IntKind.u64.wrap ((ad : Int) / g) = a') (wb : IntKind.u64.wrap ((bd : Int) / g) = b') (wk : IntKind.u64.wrap ((bd : Int) / k) = bk)
    (v0 : ∀ W, Calls Tryd.prog 42 #[.int .u64 ad, .int .u64 bd] W fun e w' => e = .returned (.int .u64 g) ∧ ∃ n, w' = W.drewN n)
    (q1 : ∀ W, Calls Tryd.prog 40 #[.int .u64 an, .int .u64 b'] W fun e w' => e = .returned (.tuple #[.int .u64 x1, .int .u64 y1]) ∧ w' = W)
    (q2 : ∀ W, Calls Tryd.prog 40 #[.int .u64 bn, .int .u64 a'] W fun e w' => e = .returned (.tuple #[.int .u64 x2, .int .u64 y2]) ∧ w' = W)
    (s1 : ∀ W, (callFunc 51 #[.int .u64 y1, .int .u64 y2, .int .u64 0]).run Tryd.prog W = .ok (.value (.tuple #[.int .u64 lo, .int .u64 cy])) W)
    (s2 : ∀ W, (callFunc 51 #[.int .u64 x1, .int .u64 x2, .int .u64 cy]).run Tryd.prog W = .ok (.value (.tuple #[.int .u64 hi, .int .u64 c2])) W)
    (v1 : ∀ W, Calls Tryd.prog 53 #[.int .u64 ((hi : Int) % g), .int .u64 lo, .int .u64 g] W fun e w' => e = .returned (.tuple #[.int .u64 t1, .int .u64 rs]) ∧ ∃ n, w' = W.drewN n)
    (v2 : ∀ W, Calls Tryd.prog 42 #[.int .u64 rs, .int .u64 g] W fun e w' => e = .returned (.int .u64 k) ∧ ∃ n, w' = W.drewN n)
    (v3 : hi < k → ∀ W, Calls Tryd.prog 53 #[.int .u64 hi, .int .u64 lo, .int .u64 k] W fun e w' => e = .returned (.tuple #[.int .u64 N, .int .u64 t2]) ∧ ∃ n, w' = W.drewN n)
    (q3 : ∀ W, Calls Tryd.prog 40 #[.int .u64 a', .int .u64 bk] W fun e w' => e = .returned (.tuple #[.int .u64 dh, .int .u64 dl]) ∧ w' = W)
    (hk : hi < k) (hd0 : dh ≠ 0) (w : World) :
    Calls Tryd.prog 43 #[.agg #[.int .i64 an, .int .i64 ad], .agg #[.int .i64 bn, .int .i64 bd], .bool true] w fun e w' =>
      e = .returned (.tuple #[.agg #[.int .i64 0, .int .i64 0], .int .i64 2]) ∧ Only [] w w' := by
  have wan := u64_nat an (by omega)
  have wbn := u64_nat bn (by omega)
  have g0 : (g : Int) ≠ 0 := by omega
  have k00 : (k : Int) ≠ 0 := by omega
  have g00 : ((g : Int) == 0) = false := by simp; omega
  have g01 : g ≠ 0 := by omega
  have k01 : ((k : Int) == 0) = false := by simp; omega
  have k02 : k ≠ 0 := by omega
  have V3 := Lib.hid v3
  have V2 := Lib.hid v2
  have V1 := Lib.hid v1
  have Q2 := Lib.hid q2
  have Q1 := Lib.hid q1
  have V0 := Lib.hid v0
  have S1 := Lib.hid s1
  have S2 := Lib.hid s2
  have WK := Lib.hid wk
  have WA := Lib.hid wa

  have hdb : (((dh : Nat) : Int) != 0) = true := by simp; omega
  clear hd0
  have Q3 := Lib.hid q3
  clear q1 q2 q3 v0 v1 v2 v3 s1 s2 wk wa
  go_enter Tryd.func43, Tryd.ntmps43
  go_wp2_with (fail)
  go_quiet (fail)
  go_wp2_with (go_at_call 42; refine (V0.out _).mono ?_; rintro e w' ⟨rfl, n0, rfl⟩)
  obtain ⟨w3, hw3⟩ : ∃ w3, w3 = (((w.alloc (Obj.cells #[Value.int IntKind.i64 ↑an, Value.int IntKind.i64 ↑ad] 23)).alloc (Obj.cells #[Value.int IntKind.i64 ↑bn, Value.int IntKind.i64 ↑bd] 23)).alloc (Obj.cells #[Value.int IntKind.i64 0, Value.int IntKind.i64 0] 23)).drewN (nq + n0) := ⟨_, rfl⟩
  have o3 : Only [] w w3 := by rw [hw3]; exact ((((Only.refl [] w).alloc _).alloc _).alloc _).drewN _
  have p := ((three_boxes w 23 #[Value.int IntKind.i64 ↑an, Value.int IntKind.i64 ↑ad] #[Value.int IntKind.i64 ↑bn, Value.int IntKind.i64 ↑bd] #[Value.int IntKind.i64 0, Value.int IntKind.i64 0]).1.drewN (nq + n0))
  have q := ((three_boxes w 23 #[Value.int IntKind.i64 ↑an, Value.int IntKind.i64 ↑ad] #[Value.int IntKind.i64 ↑bn, Value.int IntKind.i64 ↑bd] #[Value.int IntKind.i64 0, Value.int IntKind.i64 0]).2.1.drewN (nq + n0))
  have r := ((three_boxes w 23 #[Value.int IntKind.i64 ↑an, Value.int IntKind.i64 ↑ad] #[Value.int IntKind.i64 ↑bn, Value.int IntKind.i64 ↑bd] #[Value.int IntKind.i64 0, Value.int IntKind.i64 0]).2.2.drewN (nq + n0))
  rw [← hw3] at p q r ⊢
  clear hw3 h1 h2 h3 h4
  have pc0 := p.cell 0
  have qc0 := q.cell 0
  have rc0 := r.cell 0
  have rf0 := r.frozen 0
  have rc1 := r.cell 1
  have rf1 := r.frozen 1
  simp at pc0 qc0 rc0 rc1
  have P := Lib.hid p
  have Q := Lib.hid q
  have R := Lib.hid r
  have O3 := Lib.hid o3
  clear p q r o3
  go_region_held3 (fun w' => w'.cell? ⟨w.heap.size, 0, none⟩ = some (.int .i64 an)) (first | (go_keep; done) | (go_simp; done)) (first | (go_at_call 40; refine (Q1.out _).mono ?_; rintro e w' ⟨rfl, rfl⟩))
  go_wp2_with (fail)
  have wa := WA.out
  go_region_held3 (fun w' => w'.cell? ⟨w.heap.size + 1, 0, none⟩ = some (.int .i64 bn)) (first | (go_keep; done) | (go_simp; done)) (first | (go_at_call 40; refine (Q2.out _).mono ?_; rintro e w' ⟨rfl, rfl⟩))
  have s1 := S1.out
  have s2 := S2.out
  clear wa wb
  go_wp2_with (fail)
  refine (V1.out _).mono ?_
  rintro e w' ⟨rfl, n1, rfl⟩
  go_wp2_with (fail)
  refine (V2.out _).mono ?_
  rintro e w' ⟨rfl, n2, rfl⟩
  clear s1 s2
  go_wp2_with (fail)

  refine (V3.out hk _).mono ?_
  rintro e w' ⟨rfl, n3, rfl⟩
  go_wp2_with (fail)
  have wa := WA.out
  have wk := WK.out
  go_region_held3 (fun _ => True) (first | trivial | (go_keep; done)) (first | (go_at_call 40; refine (Q3.out _).mono ?_; rintro e w' ⟨rfl, rfl⟩))
  clear wa wk
  go_wp2_with (fail)
  exact bodyPost_ret (v := .tuple #[.agg #[.int .i64 0, .int .i64 0], .int .i64 2]) (by simp [results, Tryd.results43, go_sem, rc0, rc1]) rfl ⟨rfl, ((O3.out.drewN _).setCell (.inr (by simp; omega)) _).setCell (.inr (by simp; omega)) _⟩

set_option maxHeartbeats 2000000 in
theorem join_sub_fits (an ad bn bd g a' b' x1 y1 x2 y2 lo hi cy c2 t1 rs k N t2 bk dh dl : Nat)
    (h1 : an ≤ 9223372036854775807) (h2 : ad ≤ 9223372036854775807) (h3 : bn ≤ 9223372036854775807) (h4 : bd ≤ 9223372036854775807)
    (hg0 : 0 < g) (lg : g ≤ 9223372036854775807) (k0 : 0 < k) (_ : k ≤ g) (lhi : hi < 18446744073709551616) (lN : N < 18446744073709551616) (ldl : dl < 18446744073709551616)
    (wa : IntKind.u64.wrap ((ad : Int) / g) = a') (wb : IntKind.u64.wrap ((bd : Int) / g) = b') (wk : IntKind.u64.wrap ((bd : Int) / k) = bk)
    (v0 : ∀ W, Calls Tryd.prog 42 #[.int .u64 ad, .int .u64 bd] W fun e w' => e = .returned (.int .u64 g) ∧ ∃ n, w' = W.drewN n)
    (q1 : ∀ W, Calls Tryd.prog 40 #[.int .u64 an, .int .u64 b'] W fun e w' => e = .returned (.tuple #[.int .u64 x1, .int .u64 y1]) ∧ w' = W)
    (q2 : ∀ W, Calls Tryd.prog 40 #[.int .u64 bn, .int .u64 a'] W fun e w' => e = .returned (.tuple #[.int .u64 x2, .int .u64 y2]) ∧ w' = W)
    (s1 : ∀ W, (callFunc 51 #[.int .u64 y1, .int .u64 y2, .int .u64 0]).run Tryd.prog W = .ok (.value (.tuple #[.int .u64 lo, .int .u64 cy])) W)
    (s2 : ∀ W, (callFunc 51 #[.int .u64 x1, .int .u64 x2, .int .u64 cy]).run Tryd.prog W = .ok (.value (.tuple #[.int .u64 hi, .int .u64 c2])) W)
    (v1 : ∀ W, Calls Tryd.prog 53 #[.int .u64 ((hi : Int) % g), .int .u64 lo, .int .u64 g] W fun e w' => e = .returned (.tuple #[.int .u64 t1, .int .u64 rs]) ∧ ∃ n, w' = W.drewN n)
    (v2 : ∀ W, Calls Tryd.prog 42 #[.int .u64 rs, .int .u64 g] W fun e w' => e = .returned (.int .u64 k) ∧ ∃ n, w' = W.drewN n)
    (v3 : hi < k → ∀ W, Calls Tryd.prog 53 #[.int .u64 hi, .int .u64 lo, .int .u64 k] W fun e w' => e = .returned (.tuple #[.int .u64 N, .int .u64 t2]) ∧ ∃ n, w' = W.drewN n)
    (q3 : ∀ W, Calls Tryd.prog 40 #[.int .u64 a', .int .u64 bk] W fun e w' => e = .returned (.tuple #[.int .u64 dh, .int .u64 dl]) ∧ w' = W)
    (hk : hi < k) (hd0 : dh = 0) (w : World) :
    Calls Tryd.prog 43 #[.agg #[.int .i64 an, .int .i64 ad], .agg #[.int .i64 bn, .int .i64 bd], .bool true] w fun e w' =>
      e = .returned (fitV N dl) ∧ Only [] w w' := by
  have wan := u64_nat an (by omega)
  have wbn := u64_nat bn (by omega)
  have g0 : (g : Int) ≠ 0 := by omega
  have k00 : (k : Int) ≠ 0 := by omega
  have g00 : ((g : Int) == 0) = false := by simp; omega
  have g01 : g ≠ 0 := by omega
  have k01 : ((k : Int) == 0) = false := by simp; omega
  have k02 : k ≠ 0 := by omega
  have V3 := Lib.hid v3
  have V2 := Lib.hid v2
  have V1 := Lib.hid v1
  have Q2 := Lib.hid q2
  have Q1 := Lib.hid q1
  have V0 := Lib.hid v0
  have S1 := Lib.hid s1
  have S2 := Lib.hid s2
  have WK := Lib.hid wk
  have WA := Lib.hid wa

  subst hd0
  simp only [Int.ofNat_zero] at q3
  obtain ⟨ra, rb, rc, hv⟩ := fitV_parts N dl
  have hf : ∀ W, Calls Tryd.prog 54 #[.int .u64 N, .int .u64 dl] W fun e w' => e = .returned (.tuple #[.agg #[.int .i64 ra, .int .i64 rb], .int .i64 rc]) ∧ Only [] W w' := fun W => by rw [← hv]; exact (fit_any N dl lN ldl W)
  rw [hv]
  clear hv
  have HF := Lib.hid hf
  clear hf
  have Q3 := Lib.hid q3
  clear q1 q2 q3 v0 v1 v2 v3 s1 s2 wk wa
  go_enter Tryd.func43, Tryd.ntmps43
  go_wp2_with (fail)
  go_quiet (fail)
  go_wp2_with (go_at_call 42; refine (V0.out _).mono ?_; rintro e w' ⟨rfl, n0, rfl⟩)
  obtain ⟨w3, hw3⟩ : ∃ w3, w3 = (((w.alloc (Obj.cells #[Value.int IntKind.i64 ↑an, Value.int IntKind.i64 ↑ad] 23)).alloc (Obj.cells #[Value.int IntKind.i64 ↑bn, Value.int IntKind.i64 ↑bd] 23)).alloc (Obj.cells #[Value.int IntKind.i64 0, Value.int IntKind.i64 0] 23)).drewN (nq + n0) := ⟨_, rfl⟩
  have o3 : Only [] w w3 := by rw [hw3]; exact ((((Only.refl [] w).alloc _).alloc _).alloc _).drewN _
  have p := ((three_boxes w 23 #[Value.int IntKind.i64 ↑an, Value.int IntKind.i64 ↑ad] #[Value.int IntKind.i64 ↑bn, Value.int IntKind.i64 ↑bd] #[Value.int IntKind.i64 0, Value.int IntKind.i64 0]).1.drewN (nq + n0))
  have q := ((three_boxes w 23 #[Value.int IntKind.i64 ↑an, Value.int IntKind.i64 ↑ad] #[Value.int IntKind.i64 ↑bn, Value.int IntKind.i64 ↑bd] #[Value.int IntKind.i64 0, Value.int IntKind.i64 0]).2.1.drewN (nq + n0))
  have r := ((three_boxes w 23 #[Value.int IntKind.i64 ↑an, Value.int IntKind.i64 ↑ad] #[Value.int IntKind.i64 ↑bn, Value.int IntKind.i64 ↑bd] #[Value.int IntKind.i64 0, Value.int IntKind.i64 0]).2.2.drewN (nq + n0))
  rw [← hw3] at p q r ⊢
  clear hw3 h1 h2 h3 h4
  have pc0 := p.cell 0
  have qc0 := q.cell 0
  have rc0 := r.cell 0
  have rf0 := r.frozen 0
  have rc1 := r.cell 1
  have rf1 := r.frozen 1
  simp at pc0 qc0 rc0 rc1
  have P := Lib.hid p
  have Q := Lib.hid q
  have R := Lib.hid r
  have O3 := Lib.hid o3
  clear p q r o3
  go_region_held3 (fun w' => w'.cell? ⟨w.heap.size, 0, none⟩ = some (.int .i64 an)) (first | (go_keep; done) | (go_simp; done)) (first | (go_at_call 40; refine (Q1.out _).mono ?_; rintro e w' ⟨rfl, rfl⟩))
  go_wp2_with (fail)
  have wa := WA.out
  go_region_held3 (fun w' => w'.cell? ⟨w.heap.size + 1, 0, none⟩ = some (.int .i64 bn)) (first | (go_keep; done) | (go_simp; done)) (first | (go_at_call 40; refine (Q2.out _).mono ?_; rintro e w' ⟨rfl, rfl⟩))
  have s1 := S1.out
  have s2 := S2.out
  clear wa wb
  go_wp2_with (fail)
  refine (V1.out _).mono ?_
  rintro e w' ⟨rfl, n1, rfl⟩
  go_wp2_with (fail)
  refine (V2.out _).mono ?_
  rintro e w' ⟨rfl, n2, rfl⟩
  clear s1 s2
  go_wp2_with (fail)

  refine (V3.out hk _).mono ?_
  rintro e w' ⟨rfl, n3, rfl⟩
  go_wp2_with (fail)
  have wa := WA.out
  have wk := WK.out
  go_region_held3 (fun _ => True) (first | trivial | (go_keep; done)) (first | (go_at_call 40; refine (Q3.out _).mono ?_; rintro e w' ⟨rfl, rfl⟩))
  clear wa wk
  go_wp2_with (fail)
  refine (HF.out _).mono ?_
  rintro e w' ⟨rfl, ho⟩
  have hb := ho.blk (R.out.drewN _) (by simp)
  have b0 := hb.cell 0
  have b1 := hb.cell 1
  have f0 := hb.frozen 0
  have f1 := hb.frozen 1
  simp at b0 b1
  have HO := Lib.hid ho
  have HB := Lib.hid hb
  clear ho hb rc0 rc1 rf0 rf1
  go_wp2_with (fail)
  have hz := O3.out.size
  exact bodyPost_ret (v := .tuple #[.agg #[.int .i64 ra, .int .i64 rb], .int .i64 rc]) (by simp [results, Tryd.results43, go_sem, b0, b1]) rfl ⟨rfl, (((O3.out.drewN _).trans HO.out (by simp)).setCell (.inr (by simp; omega)) _).setCell (.inr (by simp; omega)) _⟩

end Go.Proofs.YtoefekgfklillaaDoor
