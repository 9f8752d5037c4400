import Derived.Test.YtlhmhpopppfpkaaQu1
namespace Go.Proofs.Ytlhmhpopppfpkaa
open Go.RowKit Go.Kx

theorem emod_cases (a len : Int) (h0 : 0 ≤ a) (h : a < 2 * len) : (a < len ∧ a % len = a) ∨ (len ≤ a ∧ a % len = a - len) := by
  rcases Int.lt_or_le a len with h1 | h1
  · exact .inl ⟨h1, Int.emod_eq_of_lt h0 h1⟩
  · refine .inr ⟨h1, ?_⟩
    rw [← Int.emod_eq_of_lt (a := a - len) (b := len) (by omega) (by omega), Int.sub_emod_right]
theorem QI_pop {cs : Array Value} {len : Nat} {first : Int} {x : Int} {xs : List Int} (h : QI cs len first (x :: xs)) (h0 : 0 ≤ first) (h1 : first < len) :
    QI (cs.setIfInBounds first.toNat (.int .i64 0)) len ((first + 1) % len) xs := by
  obtain ⟨ha, hb, hc⟩ := h
  simp at ha
  refine ⟨by omega, by simpa using hb, fun i y hy => ?_⟩
  have := hc (i + 1) y (by simpa using hy)
  have hi : i < xs.length := (List.getElem?_eq_some_iff.1 hy).1
  have e : ((first + 1) % (len : Int) + i) % (len : Int) = (first + ((i + 1 : Nat) : Int)) % len := by
    rw [Int.emod_add_emod]; congr 1; omega
  rw [e]
  rcases emod_cases (first + ((i + 1 : Nat) : Int)) len (by omega) (by omega) with ⟨q, e1⟩ | ⟨q, e1⟩ <;> rw [e1] at this ⊢ <;> rw [Array.getElem?_setIfInBounds_ne (by omega)] <;> exact this

set_option maxHeartbeats 400000 in
theorem pop_none {b rb room : Nat} {w : World} (h : Qu w b rb room []) :
    Calls Try.prog 22 #[.pointer (some ⟨b, 0, none⟩)] w fun e w' => e = .returned (.tuple #[.int .i64 0, .bool false]) ∧ Only [] w w' := by
  have H := Lib.hid h; clear h
  go_enter Try.func22, Try.ntmps22
  go_wp2_with (go_at_call 28; refine (peek_none H.out).mono ?_; rintro e w' ⟨rfl, ho⟩)
  go_ret2
  exact ⟨rfl, ho⟩

set_option maxRecDepth 100000 in
set_option maxHeartbeats 400000 in
theorem pop_some {b rb room : Nat} {x : Int} {xs : List Int} {w : World} (h : Qu w b rb room (x :: xs)) :
    Calls Try.prog 22 #[.pointer (some ⟨b, 0, none⟩)] w fun e w' => e = .returned (.tuple #[.int .i64 x, .bool true]) ∧ Qu w' b rb room xs ∧ Only [b, rb] w w' := by
  have h0 := h
  obtain ⟨ra, len, first, cs, h1, h2, h3, h4⟩ := h
  have hl := h3.1
  simp at hl
  obtain ⟨rfl, h2'⟩ := h2 (by omega)
  clear h2
  have h2 := h2'
  clear h2'
  have hne : b ≠ rb := h1.ne_ h2 (by decide)
  have c1 := fun n => (h1.drewN n).cell 1
  have c2 := fun n => (h1.drewN n).cell 2
  have c3 := h1.cell 3
  have fb2 := h1.frozen 2
  have fb3 := h1.frozen 3
  have hxs : (xs.length : Int) + 1 ≤ 1048576 := by have := h3.1; simp at this; omega
  have cx := h3.2.2 0 x (by simp)
  have hf : (first + (0 : Nat)) % (len : Int) = first := by rw [Int.emod_eq_of_lt] <;> omega
  rw [hf] at cx
  simp at c1 c2 c3
  have b1 := h4.2.2.1
  have b2 : first < len := by omega
  have lb := h1.lt
  have lrb := h2.lt
  have cr := h2.cell first.toNat
  have fr := h2.frozen first.toNat
  rw [cx] at cr
  have H := Lib.hid h0
  have H1 := Lib.hid h1
  have H2 := Lib.hid h2
  have H3 := Lib.hid h3
  have H4 := Lib.hid h4
  have Hx := Lib.hid cx
  have hne' : rb ≠ b := fun e => hne e.symm
  clear h0 h1 h2 h3 h4 hf cx
  go_enter Try.func22, Try.ntmps22
  go_wp2_with (go_at_call 28; refine (peek_some H.out).mono ?_; rintro e w' ⟨rfl, n, rfl⟩)
  go_region
  go_wp2_with (fail)
  refine (place_any (((Blk.far H1.out hne _).alloc _).drewN _) (by omega) (by have := H4.out; omega) (by omega) (by omega) (by omega) (by have := H4.out; omega)).mono ?_; rintro e w' ⟨rfl, m, rfl⟩
  go_wp2_with (fail)
  go_ret2
  refine ⟨rfl, ?_, (((((Only.refl _ w).setCell (by simp) _).setCell (by simp) _).setCell (by simp) _).alloc _).drewN _⟩
  exact ⟨_, len, _, _, ((((Blk.far H1.out hne _).set_ 2 _).set_ 3 _).alloc _).drewN _, fun _ => ⟨rfl, ((((Blk.set_ H2.out _ _).far hne' _).far hne' _).alloc _).drewN _⟩, QI_pop H3.out b1 b2, by have := H4.out; omega, by have := H4.out; omega,
    Int.emod_nonneg _ (by omega), .inl (Int.emod_lt_of_pos _ (by omega))⟩

end Go.Proofs.Ytlhmhpopppfpkaa
