import Derived.Test.YtdneihlpdnhhnaaWalks4
namespace Go.Proofs.Ytdneihlpdnhhnaa
open Go.RowKit Go.Kx

set_option maxHeartbeats 2000000 in
theorem order_any (room : Int) (A : Option Addr) (cap : Nat) (L : List (Int × Int)) (w : World) (hA : Acts w A L) (hl : L.length ≤ 9223372036854775807) (hroom : -9223372036854775808 ≤ room ∧ room ≤ 9223372036854775807) :
    Calls Try.prog 3 #[.int .i64 room, .slice A L.length cap] w fun e w' => e = .returned (.bool true) ∧ Only [] w w' := by
  have HA := Lib.hid hA; clear hA
  by_cases hfew : (300 : Int) < (L.length : Int)
  · go_enter Try.func3, Try.ntmps3
    go_wp2_with (fail)
    refine (awake_any _).mono ?_; rintro e w1 ⟨rfl, o1⟩
    go_wp2_with (fail)
    refine (awake_any _).mono ?_; rintro e w2 ⟨rfl, o2⟩
    go_wp2_with (fail)
    go_ret
    exact ⟨rfl, o1.trans o2 (fun _ h => by simp at h)⟩
  · by_cases hr : room < 1 ∨ 1048576 < room
    · have hrr : room < 1 ∨ ¬ room < 1 ∧ 1048576 < room := by omega
      rcases hrr with hrr | ⟨hr1, hrr⟩
      all_goals
        go_enter Try.func3, Try.ntmps3
        go_wp2_with (fail)
        refine (awake_any _).mono ?_; rintro e w1 ⟨rfl, o1⟩
        go_wp2_with (fail)
        refine (new_bad _ _ hr).mono ?_; rintro e w2 ⟨rfl, rfl⟩
        go_wp2_with (fail)
        go_ret
        exact ⟨rfl, o1⟩
    · obtain ⟨N, rfl⟩ := Int.eq_ofNat_of_zero_le (a := room) (by omega)
      go_enter Try.func3, Try.ntmps3
      go_wp2_with (fail)
      refine (awake_any _).mono ?_; rintro e w1 ⟨rfl, o1⟩
      go_wp2_with (fail)
      refine (new_ok N _ (by omega) (by omega)).mono ?_; rintro e w2 ⟨rfl, q2, o2⟩
      have Q2 := Lib.hid q2; clear q2
      go_wp2_with (fail)
      go_loopw [7, 8, 9, 10, 11, 12] (fun sin sout si _ _ _ wr => ∃ k out inn rb : Nat, si = .int .i64 k ∧ sin = .int .i64 inn ∧ sout = .int .i64 out ∧ out ≤ inn ∧ inn ≤ k ∧ k ≤ L.length ∧ Qu wr w1.heap.size rb N (seg out inn) ∧ Only [] w wr ∧ w1.heap.size ≤ rb ∧ w1.heap.size ≤ wr.heap.size) (fun _ _ i _ _ _ _ => L.length - (intOf i).toNat)
      case atStart => exact ⟨0, 0, 0, w1.heap.size, rfl, rfl, rfl, by omega, by omega, by omega, Q2.out, o1.trans o2 (fun _ h => by simp at h), Nat.le_refl _, o2.size⟩
      case round =>
        obtain ⟨k, out, inn, rb, rfl, rfl, rfl, h1, h2, h3, q, o, hrb, hsz⟩ := hrel
        have Q := Lib.hid q; clear q
        by_cases hk : k < L.length
        · obtain ⟨d, x, hdx⟩ : ∃ d x, L[k]? = some (d, x) := ⟨L[k].1, L[k].2, by rw [List.getElem?_eq_getElem hk]⟩
          obtain ⟨hd0, hd1, lb, lo, rfl, hlb, ca, cx⟩ := HA.out k d x hdx
          have cd := (o.cell (p := ⟨lb, lo + k * 2, none⟩) hlb (by simp)).trans ca
          clear ca cx hdx x
          have hL : L.length ≤ 300 := by omega
          by_cases hd : d % 5 < 2
          · by_cases hfull : (seg out inn).length = N
            · go_wp2_with (fail)
              refine (push_full Q.out hfull _).mono ?_; rintro e w3 ⟨rfl, n, rfl⟩
              go_wp2_with (fail)
              refine (len_any (Q.out.drewN n)).mono ?_; rintro e w3 ⟨rfl, rfl⟩
              have e1 : ((seg out inn).length : Int) = (N : Int) := by omega
              go_wp2_with (fail)
              go_roundw
              case rel => exact ⟨k + 1, out, inn, rb, by go_num, rfl, rfl, by omega, by omega, by omega, Q.out.drewN n, o.drewN n, hrb, hsz⟩
              case measure => simp [intOf]; omega
            · have hlt : (seg out inn).length < N := by have := Q.out.len; omega
              go_wp2_with (fail)
              refine (push_ok Q.out hlt _).mono ?_; rintro e w3 ⟨rfl, rb', hrb', q3, o3⟩
              have Q3 := Lib.hid q3; clear q3
              have s1 := o1.size
              have s3 := o3.size
              go_wp2_with (fail)
              go_roundw
              case rel => exact ⟨k + 1, out, inn + 1, rb', by go_num, by go_num, rfl, by omega, by omega, by omega, by rw [← seg_push _ _ h1]; exact Q3.out, o.trans o3 (fun y hy => by simp at hy; omega), by omega, by omega⟩
              case measure => simp [intOf]; omega
          · by_cases hem : out = inn
            · subst hem
              have e0 : seg out out = [] := by simp [seg]
              go_wp2_with (fail)
              refine (pop_none (by have := Q.out; rw [e0] at this; exact this)).mono ?_; rintro e w3 ⟨rfl, o3⟩
              have s3 := o3.size
              have hbs := Q.out.lt
              go_wp2_with (fail)
              go_roundw
              case rel => exact ⟨k + 1, out, out, rb, by go_num, rfl, rfl, by omega, by omega, by omega, Q.out.only o3 (by simp) (by simp), o.trans o3 (fun y hy => by simp at hy), by omega, by omega⟩
              case measure => simp [intOf]; omega
            · have hlt : out < inn := by omega
              go_wp2_with (fail)
              refine (pop_some (by have := Q.out; rw [seg_pop _ _ hlt] at this; exact this)).mono ?_; rintro e w3 ⟨rfl, q3, o3⟩
              have Q3 := Lib.hid q3; clear q3
              have s1 := o1.size
              have s3 := o3.size
              go_wp2_with (fail)
              go_roundw
              case rel => exact ⟨k + 1, out + 1, inn, rb, by go_num, rfl, by go_num, by omega, by omega, by omega, Q3.out, o.trans o3 (fun y hy => by simp at hy; omega), by omega, by omega⟩
              case measure => simp [intOf]; omega
        · go_wp2_with (fail)
          refine (len_any Q.out).mono ?_; rintro e w3 ⟨rfl, rfl⟩
          have e1 : ((seg out inn).length : Int) = (inn : Int) - out := by rw [seg_len]; omega
          go_wp2_with (fail)
          go_ret
          exact ⟨rfl, o⟩

end Go.Proofs.Ytdneihlpdnhhnaa
