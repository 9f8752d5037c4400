/- TrackPlays: many calls, a room out of bounds, and all. -/
import Derived.Test.YtcggeogpanackaaPlays
namespace Go.Proofs.Ytcggeogpanackaa
open Go.RowKit Go.Kx
set_option maxRecDepth 100000

theorem plays_many {room : Int} {A : Option Addr} {cap : Nat} {L : List Ac} {w : World} (hl : 200 < L.length) (hlen : L.length ≤ 9223372036854775807) :
    Calls Try.prog 6 #[.int .i64 room, .slice A L.length cap] w fun e w' => e = .returned (.bool true) ∧ Only [] w w' := by
  have hg : decide ((200 : Int) < (L.length : Int)) = true := by simp; omega
  go_enter Try.func6, Try.ntmps6
  go_wp2_with (fail)
  refine (awake_any _).mono ?_
  rintro e w1 ⟨rfl, o1⟩
  go_wp2_with (fail)
  refine (awake_any _).mono ?_
  rintro e w2 ⟨rfl, o2⟩
  go_wp2_with (fail)
  go_ret
  exact ⟨rfl, o1.trans o2 (by simp)⟩
theorem plays_bad {room : Int} {A : Option Addr} {cap : Nat} {L : List Ac} {w : World} (hl : L.length ≤ 200) (hr : room < 1 ∨ 1048576 < room) :
    Calls Try.prog 6 #[.int .i64 room, .slice A L.length cap] w fun e w' => e = .returned (.bool true) ∧ Only [] w w' := by
  have hg : decide ((200 : Int) < (L.length : Int)) = false := by simp; omega
  have hd1 : decide (room < 1) = true ∨ decide (room < 1) = false ∧ decide (1048576 < room) = true := by
    by_cases h : room < 1
    · exact .inl (by simpa using h)
    · exact .inr ⟨by simpa using h, by simpa using by omega⟩
  go_enter Try.func6, Try.ntmps6
  go_wp2_with (fail)
  refine (awake_any _).mono ?_
  rintro e w1 ⟨rfl, o1⟩
  go_wp2_with (fail)
  refine (new_bad hr _).mono ?_
  rintro e w2 ⟨rfl, o2⟩
  rcases hd1 with hd1 | ⟨hd1, hd2⟩
  · go_wp2_with (fail)
    go_ret
    exact ⟨rfl, o1.trans o2 (by simp)⟩
  · go_wp2_with (fail)
    go_ret
    exact ⟨rfl, o1.trans o2 (by simp)⟩
theorem trackplays_any {room : Int} {A : Option Addr} {cap : Nat} {L : List Ac} {w : World} (hL : Acs w A L) (hlen : L.length ≤ 9223372036854775807) :
    Calls Try.prog 6 #[.int .i64 room, .slice A L.length cap] w fun e w' => e = .returned (.bool true) ∧ Only [] w w' := by
  by_cases hl : 200 < L.length
  · exact plays_many hl hlen
  · by_cases hr : room < 1 ∨ 1048576 < room
    · exact plays_bad (by omega) hr
    · exact plays_few hL (by omega) (by omega) (by omega)
end Go.Proofs.Ytcggeogpanackaa
