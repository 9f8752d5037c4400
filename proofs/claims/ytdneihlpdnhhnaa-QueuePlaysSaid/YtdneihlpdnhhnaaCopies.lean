import Derived.Test.YtdneihlpdnhhnaaItems
namespace Go.Proofs.Ytdneihlpdnhhnaa
open Go.RowKit Go.Kx

/-- a slice that reads as a list of ints -/
def Ints (w : World) (A : Option Addr) (xs : List Int) : Prop := ∀ (i : Nat) x, xs[i]? = some x → ∃ g, A = some ⟨g, 0, none⟩ ∧ w.cell? ⟨g, i, none⟩ = some (.int .i64 x)
theorem ints_of_own {w : World} {v : Value} {xs : List Int} {n : Nat} (h : w.ownsRow 0 3 1 v n (xs.map (.int .i64))) : ∃ A c, v = .slice A xs.length c ∧ Ints w A xs := by
  have hl := h.1
  simp at hl
  rcases h.2 with ⟨rfl, h2⟩ | ⟨g, cap, cur, rfl, _, hh, hc, _, hs, ht⟩
  · exact ⟨none, 0, by simp; omega, fun i x hx => by have := (List.getElem?_eq_some_iff.1 hx).1; omega⟩
  · refine ⟨some ⟨g, 0, none⟩, cap, by simp; omega, fun i x hx => ⟨g, rfl, ?_⟩⟩
    have hil := (List.getElem?_eq_some_iff.1 hx).1
    rw [cell_of_row w g i cur 3 (0, 0) hh]
    have : (cur.toList.take (n * 1))[i]? = (xs.map (Value.int IntKind.i64))[i]? := by rw [ht]
    rw [List.getElem?_take, if_pos (by omega), List.getElem?_map, hx] at this
    simpa using this
theorem Ints.only {S : List Nat} {w w' : World} {A : Option Addr} {xs : List Int} (h : Ints w A xs) (ho : Only S w w') (hA : ∀ g, A = some ⟨g, 0, none⟩ → g ∉ S) : Ints w' A xs := by
  intro i x hx
  obtain ⟨g, rfl, hc⟩ := h i x hx
  refine ⟨g, rfl, ?_⟩
  obtain ⟨o, ho', _⟩ := cells_of_cell hc
  exact (ho.cell (p := ⟨g, i, none⟩) (Array.getElem?_eq_some_iff.1 ho').1 (hA g rfl)).trans hc

set_option maxHeartbeats 1000000 in
theorem alike_any {w : World} {A B : Option Addr} {c d : Nat} {xs ys : List Int} (hA : Ints w A xs) (hB : Ints w B ys) (h1 : xs.length ≤ 1048576) (h2 : ys.length ≤ 1048576) (he : xs = ys) :
    Calls Try.prog 19 #[.slice A xs.length c, .slice B ys.length d] w fun e w' => e = .returned (.bool true) ∧ ∃ n, w' = w.drewN n := by
  subst he
  have HA := Lib.hid hA
  have HB := Lib.hid hB
  clear hA hB
  go_enter Try.func19, Try.ntmps19
  go_wp2_with (fail)
  go_loopw [5] (fun i wr => ∃ k n : Nat, i = .int .i64 k ∧ k ≤ xs.length ∧ wr = w.drewN n) (fun i _ => xs.length - (intOf i).toNat)
  case atStart => exact ⟨0, 0, rfl, by omega, rfl⟩
  case round =>
    obtain ⟨k, n, rfl, hk, rfl⟩ := hrel
    by_cases hlt : k < xs.length
    · obtain ⟨g1, rfl, ca⟩ := HA.out k xs[k] (by simp [hlt])
      obtain ⟨g2, rfl, cb⟩ := HB.out k xs[k] (by simp [hlt])
      go_wp2_with (fail)
      go_quiet (fail)
      go_wp2_with (fail)
      go_roundw
      case rel => exact ⟨k + 1, _, by go_num, by omega, rfl⟩
      case measure => simp [intOf]; omega
    · go_wp2_with (fail)
      go_ret
      exact ⟨rfl, _, rfl⟩

end Go.Proofs.Ytdneihlpdnhhnaa
