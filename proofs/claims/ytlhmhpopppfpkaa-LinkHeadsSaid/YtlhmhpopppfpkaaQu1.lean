import Derived.Test.YtlhmhpopppfpkaaRows
import Derived.Test.YtlhmhpopppfpkaaWords
namespace Go.Proofs.Ytlhmhpopppfpkaa
open Go.RowKit Go.Kx

/-- a queue's struct at block b -/
def QB (w : World) (b : Nat) (room : Int) (ra : Option Addr) (len : Nat) (first n : Int) : Prop :=
  Blk w b 78 #[.int .i64 room, .slice ra len len, .int .i64 first, .int .i64 n]
theorem QB.drew {w : World} {b : Nat} {room first n : Int} {ra : Option Addr} {len : Nat} (h : QB w b room ra len first n) : QB w.drew b room ra len first n := h

set_option maxHeartbeats 400000 in
theorem place_any {b : Nat} {i first n room : Int} {ra : Option Addr} {len : Nat} {w : World}
   (hq : QB w b room ra len first n)
   (hl : 0 < len) (hlm : len ≤ 1048576) (hi0 : 0 ≤ i) (hi : i ≤ 1048576) (hf0 : 0 ≤ first) (hf : first ≤ 1048576) :
    Calls Try.prog 31 #[.pointer (some ⟨b, 0, none⟩), .int .i64 i] w fun e w' => e = .returned (.int .i64 ((first + i) % len)) ∧ ∃ n, w' = w.drewN n := by
  have h2 := hq.cell 2
  have h1 := hq.cell 1
  simp at h1 h2
  go_enter Try.func31, Try.ntmps31
  go_wp2 
  go_quiet (fail)
  go_wp2
  go_ret
  exact ⟨rfl, _, rfl⟩

/-- what the queue holds -/
def QI (cs : Array Value) (len : Nat) (first : Int) (xs : List Int) : Prop :=
  xs.length ≤ len ∧ cs.size = len ∧ ∀ (i : Nat) x, xs[i]? = some x → cs[((first + i) % len).toNat]? = some (.int .i64 x)

theorem int_info : (Try.prog.info? 3).map (fun i => (i.zero, i.size, i.bytes)) = some (some (.int .i64 0), 1, 8) := by kernel_rfl

theorem rel_item {w wr : World} {xs : List Int} {k N : Nat} {os : Array Value} (hk : k ≤ xs.length) (hlt : k < xs.length) (ho : Only [] w wr) (hos : Blk wr w.heap.size 3 os) (hsz : os.size = N)
    (hall : ∀ (i : Nat) x, i < k → xs[i]? = some x → os[i]? = some (.int .i64 x)) (m : Nat) (hN : xs.length ≤ N) :
    ∃ k1 : Nat, ∃ os, k1 ≤ xs.length ∧ Value.int .i64 (↑k + 1) = .int .i64 ↑k1 ∧ Only [] w ((wr.drewN m).setCell ⟨w.heap.size, k, none⟩ (.int .i64 xs[k])) ∧
      Blk ((wr.drewN m).setCell ⟨w.heap.size, k, none⟩ (.int .i64 xs[k])) w.heap.size 3 os ∧ os.size = N ∧ ∀ (i : Nat) x, i < k1 → xs[i]? = some x → os[i]? = some (.int .i64 x) := by
  refine ⟨k + 1, _, by omega, by go_num, (ho.drewN m).setCell (.inr (Nat.le_refl _)) _, (hos.drewN m).set_ k _, by simpa using hsz, fun i x hi hx => ?_⟩
  rcases Nat.lt_or_ge i k with h | h
  · rw [Array.getElem?_setIfInBounds_ne (by omega)]; exact hall i x h hx
  · obtain rfl : i = k := by omega
    rw [Array.getElem?_setIfInBounds_self_of_lt (by omega)]
    rw [List.getElem?_eq_getElem hlt] at hx
    injection hx with hx
    rw [hx]

set_option maxHeartbeats 400000 in
theorem items_any {b : Nat} {first room : Int} {ra : Option Addr} {len : Nat} {xs : List Int} {rb : Nat} {cs : Array Value} {N : Nat} {w : World}
   (hq : QB w b room ra len first xs.length) (hra : 0 < len → ra = some ⟨rb, 0, none⟩ ∧ Blk w rb 3 cs) (hx : QI cs len first xs)
   (hlm : len ≤ 1048576) (hf0 : 0 ≤ first) (hf : first ≤ 1048576) (hN : xs.length ≤ N) (hN2 : N ≤ 1048576) :
    Calls Try.prog 30 #[.pointer (some ⟨b, 0, none⟩), .int .i64 N] w fun e w' => ∃ os : Array Value, 
        e = .returned (.slice (some ⟨w.heap.size, 0, none⟩) N N) ∧ Only [] w w' ∧ Blk w' w.heap.size 3 os ∧ os.size = N ∧ ∀ (i : Nat) x, xs[i]? = some x → os[i]? = some (.int .i64 x) := by
  have h3 := hq.cell 3
  simp at h3
  have h3a := fun o => (Blk.alloc hq o).cell 3
  simp at h3a
  have hmk := fun W => run_make_one (P := Try.prog) 70 3 Try.underlying70 int_info rfl .i64 .i64 N (by omega) (by omega) W
  go_enter Try.func30, Try.ntmps30
  go_wp2_with (fail)
  go_loopw [6, 13] (fun _ i wr => ∃ k : Nat, ∃ os, k ≤ xs.length ∧ i = .int .i64 k ∧ Only [] w wr ∧ Blk wr w.heap.size 3 os ∧ os.size = N ∧ ∀ (i : Nat) x, i < k → xs[i]? = some x → os[i]? = some (.int .i64 x)) (fun _ i _ => xs.length - (intOf i).toNat)
  case atStart => exact ⟨0, _, by omega, rfl, (Only.refl _ _).alloc _, Blk.new _ _ _, zeros_size _ _, fun i x h => by omega⟩
  case round =>
    obtain ⟨k, os, hk, rfl, ho, hos, hsz, hall⟩ := hrel
    by_cases hlt : k < xs.length
    · have hq' := ho.blk hq (by simp)
      obtain ⟨hra, hcs⟩ := hra (by have := hx.1; omega)
      subst hra
      have hcs' := ho.blk hcs (by simp)
      have hl := hx.1
      have c1 := hq'.cell 1
      have cx := hx.2.2 k xs[k] (by simp [hlt])
      have hmod0 : 0 ≤ (first + k) % (len : Int) := Int.emod_nonneg _ (by omega)
      have hmod1 : (first + k) % (len : Int) < len := Int.emod_lt_of_pos _ (by omega)
      have cc := hcs'.cell ((first + k) % len).toNat
      rw [cx] at cc
      have co := hos.cell k
      have fo := hos.frozen k
      simp [hsz, hlt, show k < N by omega] at c1 cc co fo
      have Hx := Lib.hid hx
      clear hx cx 
      go_wp2_with (fail)
      go_region_with (go_at_call 31; refine (place_any (QB.drew hq') (by omega) (by omega) (by omega) (by omega) (by omega) (by omega)).mono ?_; rintro e w' ⟨rfl, n, rfl⟩)
      all_goals go_wp2
      all_goals go_roundw
      all_goals first | exact rel_item hk hlt ho hos hsz hall _ hN | (simp [intOf]; omega)
    · have hke : k = xs.length := by omega
      subst hke
      go_wp2_with (fail)
      go_ret
      exact ⟨os, rfl, ho, hos, hsz, fun i x h => hall i x (by have := List.getElem?_eq_some_iff.1 h; obtain ⟨h, _⟩ := this; exact h) h⟩


/-- the queue at block b, its ring at block rb, holds xs -/
def Qu (w : World) (b rb room : Nat) (xs : List Int) : Prop :=
  ∃ ra len first cs, QB w b room ra len first xs.length ∧ (0 < len → ra = some ⟨rb, 0, none⟩ ∧ Blk w rb 3 cs) ∧ QI cs len first xs ∧
    len ≤ room ∧ room ≤ 1048576 ∧ 0 ≤ first ∧ (first < len ∨ first = 0)

theorem Qu.len {w : World} {b rb room : Nat} {xs : List Int} (h : Qu w b rb room xs) : xs.length ≤ room := by
  obtain ⟨_, len, _, _, _, _, hx, hl, _⟩ := h
  have := hx.1
  omega
theorem Qu.room {w : World} {b rb room : Nat} {xs : List Int} (h : Qu w b rb room xs) : room ≤ 1048576 := by
  obtain ⟨_, len, _, _, _, _, hx, hl, h, _⟩ := h
  exact h
theorem Qu.lt {w : World} {b rb room : Nat} {xs : List Int} (h : Qu w b rb room xs) : b < w.heap.size := by
  obtain ⟨_, len, _, _, hb, _⟩ := h
  exact hb.lt
theorem Qu.drewN {w : World} {b rb room : Nat} {xs : List Int} (h : Qu w b rb room xs) (n : Nat) : Qu (w.drewN n) b rb room xs := h
theorem Qu.drew {w : World} {b rb room : Nat} {xs : List Int} (h : Qu w b rb room xs) : Qu w.drew b rb room xs := h
theorem Qu.only {w w' : World} {S : List Nat} {b rb room : Nat} {xs : List Int} (h : Qu w b rb room xs) (ho : Only S w w') (hb : b ∉ S) (hr : rb ∉ S) : Qu w' b rb room xs := by
  obtain ⟨ra, len, first, cs, h1, h2, h3⟩ := h
  exact ⟨ra, len, first, cs, ho.blk h1 hb, fun hl => ⟨(h2 hl).1, ho.blk (h2 hl).2 hr⟩, h3⟩

set_option maxHeartbeats 400000 in
theorem new_ok (room : Nat) (w : World) (h1 : 1 ≤ room) (h2 : room ≤ 1048576) :
    Calls Try.prog 29 #[.int .i64 room] w fun e w' => e = .returned (.tuple #[.pointer (some ⟨w.heap.size, 0, none⟩), .int .i64 0]) ∧ Qu w' w.heap.size w.heap.size room [] ∧ Only [] w w' := by
  go_enter Try.func29, Try.ntmps29
  go_wp2
  go_ret2
  refine ⟨rfl, ⟨none, 0, 0, #[], Blk.new _ _ _, fun h => by omega, ⟨by simp, by simp, fun i x hx => by simp at hx⟩, by omega, by omega, by omega, .inr rfl⟩, (Only.refl _ _).alloc _⟩

set_option maxHeartbeats 400000 in
theorem new_bad (room : Int) (w : World) (h : room < 1 ∨ 1048576 < room) :
    Calls Try.prog 29 #[.int .i64 room] w fun e w' => e = .returned (.tuple #[.pointer none, .int .i64 1]) ∧ w = w' := by
  rcases h with h | h
  · go_enter Try.func29, Try.ntmps29
    go_wp2
    go_ret2
    exact ⟨rfl, rfl⟩
  · have h' : ¬ room < 1 := by omega
    go_enter Try.func29, Try.ntmps29
    go_wp2
    go_ret2
    exact ⟨rfl, rfl⟩

set_option maxHeartbeats 400000 in
theorem len_any {b rb room : Nat} {xs : List Int} {w : World} (h : Qu w b rb room xs) :
    Calls Try.prog 19 #[.pointer (some ⟨b, 0, none⟩)] w fun e w' => e = .returned (.int .i64 xs.length) ∧ w = w' := by
  obtain ⟨ra, len, first, cs, h1, h2, h3⟩ := h
  have c3 := h1.cell 3
  simp at c3
  clear h1 h2 h3
  go_enter Try.func19, Try.ntmps19
  go_wp2
  go_ret
  exact ⟨rfl, rfl⟩

set_option maxHeartbeats 400000 in
theorem peek_none {b rb room : Nat} {w : World} (h : Qu w b rb room []) :
    Calls Try.prog 28 #[.pointer (some ⟨b, 0, none⟩)] w fun e w' => e = .returned (.tuple #[.int .i64 0, .bool false]) ∧ Only [] w w' := by
  have H := Lib.hid h; clear h
  go_enter Try.func28, Try.ntmps28
  go_wp2_with (go_at_call 19; refine (len_any H.out).mono ?_; rintro e w' ⟨rfl, rfl⟩)
  go_ret2
  exact ⟨rfl, (Only.refl _ _).alloc _⟩

set_option maxHeartbeats 400000 in
theorem peek_some {b rb room : Nat} {x : Int} {xs : List Int} {w : World} (h : Qu w b rb room (x :: xs)) :
    Calls Try.prog 28 #[.pointer (some ⟨b, 0, none⟩)] w fun e w' => e = .returned (.tuple #[.int .i64 x, .bool true]) ∧ ∃ n, w' = w.drewN n := by
  have h0 := h
  obtain ⟨ra, len, first, cs, h1, h2, h3, h4⟩ := h
  have hl := h3.1
  simp at hl
  obtain ⟨rfl, h2'⟩ := h2 (by omega)
  clear h2
  have h2 := h2'
  clear h2'
  have c1 := h1.cell 1
  have c2 := h1.cell 2
  have cx := h3.2.2 0 x (by simp)
  have hf : (first + (0 : Nat)) % (len : Int) = first := by rw [Int.emod_eq_of_lt] <;> omega
  rw [hf] at cx
  have cr := h2.cell first.toNat
  rw [cx] at cr
  simp at c1 c2
  have b1 := h4.2.2.1
  have b2 : first < len := by omega
  have H := Lib.hid h0
  clear h0 h1 h2 h3 h4 hf cx
  go_enter Try.func28, Try.ntmps28
  go_wp2_with (go_at_call 19; refine (len_any H.out).mono ?_; rintro e w' ⟨rfl, rfl⟩)
  go_quiet (fail)
  go_wp2
  go_ret2
  exact ⟨rfl, _, rfl⟩

end Go.Proofs.Ytlhmhpopppfpkaa
