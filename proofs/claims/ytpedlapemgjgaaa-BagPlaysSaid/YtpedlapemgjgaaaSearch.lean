/- sort.Search over whatever lays memory. -/
import Derived.Test.YtpedlapemgjgaaaRow
import Derived.Deep.LoopGhost
namespace Go.Proofs.Ytpedlapemgjgaaa
open Go.RowKit Go.Kx
set_option maxRecDepth 20000

theorem countP_split (p : Nat → Bool) (n k : Nat) (hk : k ≤ n) (h1 : ∀ t, t < k → p t = false) (h2 : ∀ t, k ≤ t → t < n → p t = true) : (List.range n).countP (fun i => !p i) = k := by
  induction n with
  | zero => simp; omega
  | succ n ih =>
    rw [List.range_succ, List.countP_append]
    by_cases e : k = n + 1
    · subst e
      have h0 := h1 n (by omega)
      have : (List.range n).countP (fun i => !p i) = n := by
        rw [List.countP_eq_length.2 (fun a ha => by simp at ha; simp [h1 a (by omega)])]
        simp
      rw [this]; simp [h0]
    · rw [ih (by omega) (fun t ht ht2 => h2 t ht (by omega))]
      simp [h2 n (by omega) (by omega)]

set_option maxHeartbeats 2000000 in
/-- sort.Search, whatever the test lays -/
theorem search_any (g : Nat) (cb : Array Value) (n : Nat) (p : Nat → Bool) (w : World) (eg : ∀ args w, (callFunc g args).run Try.prog w = .ok (.enter g args) w) (hsz : n < 4611686018427387904)
    (hf : ∀ (W : World) (i : Nat), i < n → Only [] w W → Calls Try.prog g (#[.int .i64 i] ++ cb) W fun e w' => e = .returned (.bool (p i)) ∧ Only [] W w')
    (hmono : ∀ a b, a ≤ b → b < n → p a = true → p b = true) :
    Calls Try.prog 46 #[.int .i64 n, .func (.func g) #[] cb] w fun e w' => e = .returned (.int .i64 ((List.range n).countP (fun i => !p i) : Nat)) ∧ Only [] w w' := by
  have HF := Lib.hid hf
  have M := Lib.hid hmono
  clear hf hmono
  generalize hcnt : (List.range n).countP (fun i => !p i) = cnt
  have CN := Lib.hid hcnt
  clear hcnt
  go_enter Try.func46, Try.ntmps46
  go_wp2_with (fail)
  go_loopg [5, 6] n (fun kx s5 s6 wr => ∃ (lo hi : Nat), s5 = .int .i64 lo ∧ s6 = .int .i64 hi ∧ lo ≤ hi ∧ hi ≤ n ∧ hi - lo ≤ kx ∧ Hid (Only [] w wr) ∧
    Hid ((∀ t, t < lo → p t = false) ∧ (∀ t, hi ≤ t → t < n → p t = true)))
  case atStart => exact ⟨0, n, rfl, rfl, Nat.zero_le _, Nat.le_refl _, by omega, Lib.hid (Only.refl _ _), Lib.hid ⟨fun t ht => absurd ht (Nat.not_lt_zero _), fun t h1 h2 => by omega⟩⟩
  case round =>
    obtain ⟨lo, hi, rfl, rfl, hlh, hin, hg, O, I⟩ := hrel
    by_cases hlt : lo < hi
    · have hc := HF.out wr ((lo + hi) / 2) (by omega) O.out
      rw [show (((lo + hi) / 2 : Nat) : Int) = ((lo : Int) + (hi : Int)) / 2 by omega] at hc
      cases hp : p ((lo + hi) / 2) <;> rw [hp] at hc
      · have HP := Lib.hid hp
        clear hp
        go_wp2_with (fail)
        refine hc.mono ?_
        rintro e w' ⟨rfl, o⟩
        go_wp2_with (fail)
        go_roundg (hi - ((lo + hi) / 2 + 1))
        case measure => omega
        case rel =>
          have I2 : (∀ t, t < (lo + hi) / 2 + 1 → p t = false) ∧ (∀ t, hi ≤ t → t < n → p t = true) := ⟨fun t ht => (by
            cases h : p t with
            | false => rfl
            | true => have := M.out t ((lo + hi) / 2) (by omega) (by omega) h; rw [HP.out] at this; cases this), I.out.2⟩
          exact ⟨(lo + hi) / 2 + 1, hi, by rw [show ((lo : Int) + (hi : Int)) / 2 + 1 = (((lo + hi) / 2 + 1 : Nat) : Int) by omega], rfl, by omega, hin, Nat.le_refl _, Lib.hid (O.out.trans o (by simp)), Lib.hid I2⟩
      · have HP := Lib.hid hp
        clear hp
        go_wp2_with (fail)
        refine hc.mono ?_
        rintro e w' ⟨rfl, o⟩
        go_wp2_with (fail)
        go_roundg ((lo + hi) / 2 - lo)
        case measure => omega
        case rel =>
          have I2 : (∀ t, t < lo → p t = false) ∧ (∀ t, (lo + hi) / 2 ≤ t → t < n → p t = true) := ⟨I.out.1, fun t ht htn => M.out ((lo + hi) / 2) t ht htn HP.out⟩
          exact ⟨lo, (lo + hi) / 2, rfl, by rw [show ((lo : Int) + (hi : Int)) / 2 = (((lo + hi) / 2 : Nat) : Int) by omega], by omega, by omega, Nat.le_refl _, Lib.hid (O.out.trans o (by simp)), Lib.hid I2⟩
    · obtain rfl : hi = lo := by omega
      have ecnt : cnt = hi := by
        rw [← CN.out]
        exact countP_split p n hi hin I.out.1 I.out.2
      subst ecnt
      go_wp2_with (fail)
      go_ret
      exact ⟨rfl, O.out⟩
end Go.Proofs.Ytpedlapemgjgaaa
