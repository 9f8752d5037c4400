import Derived.Test.YtdneihlpdnhhnaaWalks3
namespace Go.Proofs.Ytdneihlpdnhhnaa
open Go.RowKit Go.Kx

theorem ret2_int {a b : Int} {c d : Value} (h : a = b) (h2 : c = d) : Ending.returned (.tuple #[.int .i64 a, c]) = .returned (.tuple #[.int .i64 b, d]) := by rw [h, h2]

set_option maxHeartbeats 1000000 in
theorem awake_any (w : World) : Calls Try.prog 7 #[] w fun e w' => e = .returned (.bool true) ∧ Only [] w w' := by
  go_enter Try.func7, Try.ntmps7
  go_wp2_with (fail)
  refine (new_ok 2 _ (by omega) (by omega)).mono ?_
  rintro e w1 ⟨rfl, q1, o1⟩
  have Q1 := Lib.hid q1; clear q1
  go_wp2_with (fail)
  refine (push_ok Q1.out (by simp) 1).mono ?_
  rintro e w2 ⟨rfl, r2, hr2, q2, o2⟩
  have Q2 := Lib.hid q2; clear q2
  go_wp2_with (fail)
  refine (push_ok Q2.out (by simp) 2).mono ?_
  rintro e w3 ⟨rfl, r3, hr3, q3, o3⟩
  have Q3 := Lib.hid q3; clear q3
  go_wp2_with (fail)
  refine (push_full Q3.out (by simp) 3).mono ?_
  rintro e w4 ⟨rfl, n, rfl⟩
  go_wp2_with (fail)
  refine (pop_some (Q3.out.drewN _)).mono ?_
  rintro e w5 ⟨rfl, q5, o5⟩
  have Q5 := Lib.hid q5; clear q5
  go_wp2_with (fail)
  refine (len_any Q5.out).mono ?_
  rintro e w6 ⟨rfl, rfl⟩
  go_wp2_with (fail)
  go_ret
  refine ⟨rfl, ?_⟩
  have s1 := o1.size
  have s2 := o2.size
  have s3 := o3.size
  refine (((o1.trans o2 ?_).trans o3 ?_).drewN n).trans o5 ?_
  all_goals (intro x hx; simp at hx; omega)


/-- the acts that a slice of Act holds -/
def Acts (w : World) (A : Option Addr) (L : List (Int × Int)) : Prop :=
  ∀ (i : Nat) d x, L[i]? = some (d, x) → 0 ≤ d ∧ d ≤ 255 ∧ ∃ lb lo, A = some ⟨lb, lo, none⟩ ∧ lb < w.heap.size ∧ w.cell? ⟨lb, lo + i * 2, none⟩ = some (.int .u8 d) ∧ w.cell? ⟨lb, lo + i * 2 + 1, none⟩ = some (.int .i64 x)

def seg (o i : Nat) : List Int := (List.range' o (i - o)).map Int.ofNat
theorem seg_len (o i : Nat) : (seg o i).length = i - o := by simp [seg]
theorem seg_push (o i : Nat) (h : o ≤ i) : seg o i ++ [(i : Int)] = seg o (i + 1) := by
  unfold seg
  rw [show i + 1 - o = (i - o) + 1 by omega, List.range'_concat]
  simp; omega
theorem seg_pop (o i : Nat) (h : o < i) : seg o i = (o : Int) :: seg (o + 1) i := by
  unfold seg
  rw [show i - o = (i - (o + 1)) + 1 by omega, List.range'_succ]
  simp

end Go.Proofs.Ytdneihlpdnhhnaa
