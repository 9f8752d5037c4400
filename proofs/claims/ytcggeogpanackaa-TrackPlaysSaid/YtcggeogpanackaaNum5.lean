/- The reference's numbers, walked: Gcd, Int, most, plain. -/
import Derived.Test.YtcggeogpanackaaNum4
import Derived.Deep.LoopGhost
namespace Go.Proofs.Ytcggeogpanackaa
open Go.RowKit Go.Kx
set_option maxRecDepth 20000

theorem toD_len_pos {n : Nat} : 0 < (toD n).length ↔ 0 < n := by
  rw [toD_len, Nat.pow_zero]; omega
theorem toD_len_mono {a b : Nat} (h : a ≤ b) : (toD a).length ≤ (toD b).length := toD_len_le (Nat.lt_of_le_of_lt h (lt_pow_len b))

set_option maxHeartbeats 1000000 in
theorem gcdn_any {a b : Nat} {w : World} {x y : Value} (hx : Nm w x a) (hy : Nm w y b) (ha : (toD a).length ≤ 100) (hb : (toD b).length ≤ 100) :
    Calls Try.prog 44 #[x, y] w fun e w' => ∃ v, e = .returned v ∧ Nm w' v (Nat.gcd a b) ∧ Only [] w w' := by
  have HX := Lib.hid hx
  have HY := Lib.hid hy
  clear hx hy
  go_enter Try.func44, Try.ntmps44
  go_wp2_with (fail)
  go_loopg [0, 1] b (fun d u v wr => ∃ c : Nat, Nm wr u c ∧ Nm wr v d ∧ (toD c).length ≤ 100 ∧ (toD d).length ≤ 100 ∧ Nat.gcd c d = Nat.gcd a b ∧ Only [] w wr)
  case atStart => exact ⟨a, HX.out, HY.out, ha, hb, rfl, Only.refl _ _⟩
  case round =>
    obtain ⟨c, hc, hd, lc, ld, hg, ho⟩ := hrel
    have HC := Lib.hid hc
    have HD := Lib.hid hd
    obtain ⟨A, cc, rfl, _, _⟩ := hd
    have HO := Lib.hid ho
    clear ho hc
    rcases Nat.eq_zero_or_pos gk with h0 | h0
    · subst h0
      rw [Nat.gcd_zero_right] at hg
      subst hg
      have e0 : (toD 0).length = 0 := by rw [toD_zero]; rfl
      rw [e0]
      clear e0
      go_wp2_with (fail)
      go_ret
      exact ⟨_, rfl, HC.out, HO.out⟩
    · have hp : (0 : Int) < ((toD gk).length : Int) := by have := toD_len_pos.2 h0; omega
      have HG := Lib.hid hg
      clear hg
      go_wp2_with (fail)
      refine (divn_any HC.out HD.out lc ld h0).mono ?_
      rintro e w1 ⟨q, r, rfl, hq, hr, o1⟩
      have HR := Lib.hid hr
      have HD1 := Lib.hid (HD.out.only o1)
      have HO1 := Lib.hid (HO.out.trans o1 (by simp))
      clear hq hr o1
      go_wp2_with (fail)
      go_roundg (c % gk)
      case measure => exact Nat.mod_lt _ h0
      case rel => exact ⟨gk, HD1.out, HR.out, ld, Nat.le_trans (toD_len_mono (Nat.mod_le _ _)) lc, by rw [gcd_step]; exact HG.out, HO1.out⟩

theorem toD_one : toD 1 = [1] := by rw [toD_pos (by omega)]; rw [show 1 / 10000 = 0 by rfl, toD_zero]
theorem one_nm (w : World) : Nm (w.alloc (.cells #[.int .i64 1] 3)) (.slice (some ⟨w.heap.size, 0, none⟩) 1 1) 1 := by
  refine ⟨some ⟨w.heap.size, 0, none⟩, 1, by rw [toD_one]; rfl, ?_, by rw [toD_one]; simp, by unfold maxLen; omega⟩
  rw [toD_one]
  intro i d h
  have hb : Blk (w.alloc (.cells #[.int .i64 1] 3)) w.heap.size 3 #[.int .i64 1] := Blk.new _ _ _
  match i, h with
  | 0, h => simp at h; subst h; exact ⟨w.heap.size, 0, rfl, hb.lt, hb.cell 0⟩
  | i + 1, h => simp at h
theorem Nm.alloc_ {w : World} {v : Value} {n : Nat} (h : Nm w v n) {o : Obj} : Nm (w.alloc o) v n := h.only ((Only.refl [] w).alloc _)

end Go.Proofs.Ytcggeogpanackaa
